/- Layer 10: Of refused, the law's long and mats. Layer 10: the law's mats; grids whose sizes do not fit. Layer 9: Scale, VecMul, Sub, Add and Sub of shapes that do not go, Equal. Layer 10: products and sums of small grids; grids whose sizes do not fit. Layer 10: SparseRing where a matrix has no grid. Layer 10: entries of products and sums of small grids. Layer 10: the changes of a small grid, as functions. Ranges over functions where others ran before: the activation's marks are a list; loops that hold such statements. The engine: frames for statements about memory: what a walk may write lies in a set S, or is its own; facts on data name their blocks. Layer 10: integers in blocks of their own, written over: zint.Least with its block, the law's spoil; All and its iterator. Layer 10: the iterator of All. -/
import Derived.Test.YtlpheckjogphmaaPg12
import Derived.Test.YtlpheckjogphmaaPg8
import Derived.Test.YtlpheckjogphmaaPg9
import Derived.Test.YtlpheckjogphmaaPg4
set_option linter.unusedVariables false
set_option linter.unusedSimpArgs false
set_option linter.unusedSectionVars false
namespace Go.Proofs.Ytlpheckjogphmaa
open Go Go.Eng Go.Proofs Go.NatM Go.RowKit
set_option maxHeartbeats 4000000 in
theorem ofBad (w : World) (x : MV) (hx : InR x) (hn : ¬ ∃ r c, Sound x r c) :
    Cl Try.prog 9 #[.agg (mvc x).toArray] w (RetLg w 1) := by
  have hck := fun w1 => chk_bad w1 x hx hn
  obtain ⟨xr, xc, A, n, k, l⟩ := x
  refine enterM Try.func9 rfl rfl rfl (fun _ h => by cases h.1) ?_
  have hF := Fr.refl w
  repeat' (first | (refine TL.isOp ?_; first | (refine TL.isCall ?_; refine TL.call rfl rfl ?_; first | (refine (hck _).mono ?_; rintro _ wy ⟨rfl, hE⟩; replace hF := hF.exts hE; clear hE; refine Back.mk ?_)) | (refine TL.isBin ?_; refine TL.cmpG rfl rfl rfl rfl (fun hc => ?_) (fun hc => ?_) <;> (try (first | (exfalso; omega) | exact absurd rfl hc))) | (apply TL.ev; (case hd => rfl); (case h => (first | exact ev_simple rfl | (apply Ev.isLoad; first | exact ev_loadAFr hF rfl (by refine ⟨?_, ?_⟩; (focus (repeat (first | exact InV.head | apply InV.tail))); rfl))))) | (refine TL.boxAFr hF (d := 1) (cs := [.int .i64 xr, .int .i64 xc, .slice A n k]) rfl rfl ?_; clear hF; intro w1 b1 hF)) | (refine G.is ?_; first | refine G.nextI ?_ | refine G.thenR ?_) | refine TL.nil ?_ | (refine TI.is ?_; first | refine TI.seq ?_ | refine TI.region rfl ?_ | refine TI.cond_t rfl ?_ | refine TI.ret ?_))
  all_goals exact G.retM2 rfl rfl rfl ⟨rfl, hF.ext⟩
set_option maxHeartbeats 4000000 in
theorem ofLarge (w : World) (x : MV) (r c : Nat) (gx : GM w.heap x r c 1048576) (hb : ∃ y ∈ x.l, big y) :
    Cl Try.prog 9 #[.agg (mvc x).toArray] w (RetLg w 5) := by
  have hck := fun w1 => chk_ok w1 x r c gx.sh
  have hcl := fun w1 (hE : Ext w w1) => containsLong w1 x.n x.k x.A x.l (gx.s.ext hE).size (by have := gx.sh.n; have h1 := Nat.mul_le_mul gx.sh.r64 gx.sh.c64; omega) (fun y hy => ⟨(gx.g y hy).1.ext hE, Nat.le_trans (gx.g y hy).2 (by omega)⟩) true ⟨fun _ => hb, fun _ => rfl⟩
  obtain ⟨xr, xc, A, n, k, l⟩ := x
  dsimp only at hcl
  refine enterM Try.func9 rfl rfl rfl (fun _ h => by cases h.1) ?_
  have hF := Fr.refl w
  repeat' (first | (refine TL.isOp ?_; first | (refine TL.isCall ?_; refine TL.call rfl rfl ?_; first | (refine (hck _).mono ?_; rintro _ wy ⟨rfl, hE⟩; replace hF := hF.exts hE; clear hE; refine Back.mk ?_) | (refine (hcl _ hF.ext).mono ?_; rintro _ wy ⟨rfl, hE⟩; replace hF := hF.exts hE; clear hE; refine Back.mk ?_)) | (refine TL.isBin ?_; refine TL.cmpG rfl rfl rfl rfl (fun hc => ?_) (fun hc => ?_) <;> (try (first | (exfalso; omega) | exact absurd rfl hc))) | (apply TL.ev; (case hd => rfl); (case h => (first | exact ev_simple rfl | (apply Ev.isLoad; first | exact ev_loadFr hF rfl (by refine ⟨?_, ?_⟩; (focus (repeat (first | exact InV.head | apply InV.tail))); rfl) | exact ev_loadAFr hF rfl (by refine ⟨?_, ?_⟩; (focus (repeat (first | exact InV.head | apply InV.tail))); rfl)) | exact ev_fieldAddr rfl))) | (refine TL.boxAFr hF (d := 1) (cs := [.int .i64 xr, .int .i64 xc, .slice A n k]) rfl rfl ?_; clear hF; intro w1 b1 hF)) | (refine G.is ?_; first | refine G.nextI ?_ | refine G.thenR ?_) | refine TL.nil ?_ | (refine TI.is ?_; first | refine TI.seq ?_ | refine TI.region rfl ?_ | refine TI.cond_t rfl ?_ | refine TI.cond_f rfl ?_ | refine TI.ret ?_ | refine TI.skip ?_))
  all_goals exact G.retM2 rfl rfl rfl ⟨rfl, hF.ext⟩
theorem iv_blB (w : World) (x : IV) (g : GI w.heap x) (hn : x.m.n ≤ 1099511627776) : Cl Try.prog 29 #[.slice x.m.A x.m.n x.m.c] w (fun e w' => e = .returned (.int .i64 ((bl (ival x).natAbs : Nat) : Int)) ∧ Ext w w') := by
  rw [ival_nat]
  exact (bitlen_ok w.heap _ x.m.A x.m.n x.m.c x.m.l g.s g.u (by omega)).cl.mono fun e w' h => ⟨h.1, h.2.ext⟩
/-- the law's long -/
theorem longL (w : World) (x : MV) (K : Nat) (hs : Sm 2 ivc w.heap w.heap.size x.A x.n x.k x.l) (hg : ∀ y ∈ x.l, GI w.heap y ∧ y.m.n ≤ K) (hK : K ≤ 1099511627776) (hn : x.n ≤ 1048576) (b : Bool) (hb : b = true ↔ ∃ y ∈ x.l, big y) :
    Cl Try.prog 12 #[.agg (mvc x).toArray] w (fun e w' => e = .returned (.bool b) ∧ Ext w w') := by
  obtain ⟨xr, xc, A, n, k, l⟩ := x
  dsimp only at hs hg hn hb
  have hl := hs.len
  refine enter Try.func12 rfl rfl rfl ?_
  have hF := Fr.refl w
  repeat' (first | (refine TL.isOp ?_; first | (apply TL.ev; (case hd => rfl); (case h => (first | exact ev_simple rfl))) | (refine TL.boxAFr hF (d := 1) (cs := [.int .i64 xr, .int .i64 xc, .slice A n k]) rfl rfl ?_; clear hF; intro w1 b1 hF)) | (refine T.is ?_; first | refine T.seq ?_ | refine T.region ?_ | refine T.block ?_) | (refine G.is ?_; first | refine G.next ?_) | refine TL.nil ?_)
  refine T.loop (α := Nat) (fun i => [(1, .pointer (some ⟨b1, 0, none⟩)), (3, .int .i64 (i : Int))]) (fun i w' => i ≤ n ∧ (∀ j y, j < i → l[j]? = some y → ¬ big y) ∧ Fr w w' [⟨b1, 24, [.int .i64 xr, .int .i64 xc, .slice A n k]⟩] []) (fun i => n - i) 0 (by repeat (first | exact Sub.nil _ | refine Sub.cons rfl ?_ | refine Sub.cons' rfl (int_congr (by omega)) ?_)) ⟨Nat.zero_le _, fun j y h => absurd h (Nat.not_lt_zero _), hF⟩ ?_
  clear hF
  rintro i w1 ⟨hi, hnb, hF⟩
  rcases Nat.lt_or_ge i n with hin | hin
  · obtain ⟨y, hy⟩ : ∃ y, l[i]? = some y := ⟨_, List.getElem?_eq_getElem (by omega)⟩
    have gy := hg y (List.mem_of_getElem? hy)
    have hym := List.mem_of_getElem? hy
    rcases hs.mem with h0 | ⟨bA, oA, rfl, _⟩
    · exact absurd h0 (by omega)
    have hbl := fun w1 (hE : Ext w w1) => iv_blB w1 y (gy.1.ext hE) (by omega)
    obtain ⟨q, hq⟩ : ∃ q, bl (ival y).natAbs = q := ⟨_, rfl⟩
    rw [hq] at hbl
    have hbq : big y ↔ 1048576 < q := by rw [big_iff]; unfold bigZ; rw [hq]
    obtain ⟨ys, ⟨yA, yn, yc, yl⟩⟩ := y
    dsimp only at hbl
    by_cases hlt : 1048576 < q
    · repeat' (first | (refine TL.isOp ?_; first | (refine TL.isCall ?_; refine TL.call rfl rfl ?_; first | (refine (hbl _ hF.ext).mono ?_; rintro _ wc ⟨rfl, hE⟩; replace hF := hF.exts hE; clear hE; refine Back.mk ?_)) | (refine TL.isBin ?_; refine TL.cmpG rfl rfl rfl rfl (fun hc => ?_) (fun hc => ?_) <;> (try (first | (exfalso; omega) | exact absurd rfl hc))) | (apply TL.ev; (case hd => rfl); (case h => (first | exact ev_simple rfl | (apply Ev.isLoad; first | exact ev_loadFr hF rfl (by refine ⟨?_, ?_⟩; (focus (repeat (first | exact InV.head | apply InV.tail))); rfl) | exact ev_loadMF rfl (hs.ext hF.ext) hy rfl) | exact ev_len rfl | exact ev_fieldAddr rfl | exact ev_fieldAddrE rfl rfl | exact ev_indexM rfl rfl hin (hs.ext hF.ext).some)))) | (refine T.is ?_; first | refine T.seq ?_ | refine T.region ?_ | refine T.block ?_ | refine T.cond_t rfl ?_ | refine T.ret ?_ | refine T.skip ?_) | (refine G.is ?_; first | refine G.next ?_ | refine G.blockR ?_ | refine G.thenR ?_) | refine TL.nil ?_)
      have e : b = true := hb.2 ⟨_, hym, hbq.2 hlt⟩
      subst e
      all_goals exact G.ret1 rfl rfl ⟨rfl, hF.ext⟩
    · repeat' (first | (refine TL.isOp ?_; first | (refine TL.isCall ?_; refine TL.call rfl rfl ?_; first | (refine (hbl _ hF.ext).mono ?_; rintro _ wc ⟨rfl, hE⟩; replace hF := hF.exts hE; clear hE; refine Back.mk ?_)) | (refine TL.isBin ?_; refine TL.cmpG rfl rfl rfl rfl (fun hc => ?_) (fun hc => ?_) <;> (try (first | (exfalso; omega) | exact absurd rfl hc))) | (apply TL.ev; (case hd => rfl); (case h => (first | exact ev_simple rfl | (apply Ev.isBin; first | exact ev_arN rfl rfl rfl (by omega)) | (apply Ev.isLoad; first | exact ev_loadFr hF rfl (by refine ⟨?_, ?_⟩; (focus (repeat (first | exact InV.head | apply InV.tail))); rfl) | exact ev_loadMF rfl (hs.ext hF.ext) hy rfl) | exact ev_len rfl | exact ev_fieldAddr rfl | exact ev_fieldAddrE rfl rfl | exact ev_indexM rfl rfl hin (hs.ext hF.ext).some)))) | (refine T.is ?_; first | refine T.seq ?_ | refine T.region ?_ | refine T.block ?_ | refine T.cond_t rfl ?_ | refine T.cond_f rfl ?_ | refine T.skip ?_) | (refine G.is ?_; first | refine G.next ?_ | refine G.blockN ?_) | refine TL.nil ?_)
      all_goals exact G.again (i + 1) (by repeat (first | exact Sub.nil _ | refine Sub.cons rfl ?_ | refine Sub.cons' rfl (int_congr (by omega)) ?_)) ⟨hin, fun j z hj hz => by
        rcases Nat.lt_or_ge j i with h | h
        · exact hnb j z h hz
        · obtain rfl : j = i := by omega
          rw [hy] at hz
          obtain rfl := Option.some.inj hz
          exact fun h => hlt (hbq.1 h), hF⟩ (by omega)
  · obtain rfl : i = n := by omega
    repeat' (first | (refine TL.isOp ?_; first | (refine TL.isBin ?_; refine TL.cmpG rfl rfl rfl rfl (fun hc => ?_) (fun hc => ?_) <;> (try (first | (exfalso; omega) | exact absurd rfl hc))) | (apply TL.ev; (case hd => rfl); (case h => (first | exact ev_simple rfl | (apply Ev.isLoad; first | exact ev_loadFr hF rfl (by refine ⟨?_, ?_⟩; (focus (repeat (first | exact InV.head | apply InV.tail))); rfl)) | exact ev_len rfl | exact ev_fieldAddr rfl)))) | (refine T.is ?_; first | refine T.seq ?_ | refine T.region ?_ | refine T.cond_f rfl ?_ | refine T.exit ?_ | refine T.ret ?_) | (refine G.is ?_; first | refine G.next ?_ | refine G.blockE ?_ | refine G.thenE ?_) | refine TL.nil ?_)
    have e : b = false := by
      cases b with
      | false => rfl
      | true =>
        obtain ⟨y, hy, h⟩ := hb.1 rfl
        obtain ⟨j, hj⟩ := List.mem_iff_getElem?.1 hy
        exact absurd h (hnb j y (by rw [← hl]; exact (List.getElem?_eq_some_iff.1 hj).1) hj)
    subst e
    all_goals exact G.ret1 rfl rfl ⟨rfl, hF.ext⟩
end Go.Proofs.Ytlpheckjogphmaa

set_option linter.unusedSectionVars false
namespace Go.Proofs.Ytlpheckjogphmaa
open Go Go.Eng Go.Proofs Go.NatM Go.RowKit
end Go.Proofs.Ytlpheckjogphmaa

namespace Go.Proofs.Ytlpheckjogphmaa
open Go Go.Eng Go.Proofs Go.NatM Go.RowKit

theorem RetZ.more {w : World} {z : Int} {K K' : Nat} (hK : K ≤ K') {e : Ending} {w' : World} (h : RetZ w z K e w') : RetZ w z K' e w' := by
  obtain ⟨x, h1, h2, h3, h4⟩ := h
  exact ⟨x, h1, h2, h3, Nat.le_trans h4 hK⟩
end Go.Proofs.Ytlpheckjogphmaa

set_option linter.unusedSectionVars false
namespace Go.Eng
open Go Go.Proofs Go.NatM Go.RowKit Go.Proofs.Ytlpheckjogphmaa
theorem inrc_len {r c : Nat} {ks : List (Int × Int)} (hn : ks.Nodup) (h : ∀ k ∈ ks, (0 ≤ k.1 ∧ k.1 < (r : Int)) ∧ (0 ≤ k.2 ∧ k.2 < (c : Int))) : ks.length ≤ r * c := by
  have h1 := nodup_len_le (b := ((List.range r).map fun i => (List.range c).map fun j => (((i : Nat) : Int), ((j : Nat) : Int))).flatten) hn fun k hk => by
    obtain ⟨a, b⟩ := k
    have := h _ hk
    dsimp only at this
    refine List.mem_flatten.2 ⟨_, List.mem_map.2 ⟨a.toNat, List.mem_range.2 (by omega), rfl⟩, List.mem_map.2 ⟨b.toNat, List.mem_range.2 (by omega), ?_⟩⟩
    have e1 : ((a.toNat : Nat) : Int) = a := by omega
    have e2 : ((b.toNat : Nat) : Int) = b := by omega
    rw [e1, e2]
  rwa [cross_len (fun (i j : Nat) => ((i : Int), (j : Int))), List.length_range, List.length_range] at h1
theorem InRC.add {r c : Nat} {A B : ZF} (hA : InRC r c A) (hB : InRC r c B) : InRC r c (addF A B) := fun k hk => by
  by_cases h : A k = 0
  · exact hB k fun e => hk (by unfold addF; rw [h, e]; rfl)
  · exact hA k h
end Go.Eng
namespace Go.Proofs.Ytlpheckjogphmaa
open Go Go.Eng Go.Proofs Go.NatM Go.RowKit
end Go.Proofs.Ytlpheckjogphmaa

set_option linter.unusedSectionVars false
namespace Go.Proofs.Ytlpheckjogphmaa
open Go Go.Eng Go.Proofs Go.NatM Go.RowKit
end Go.Proofs.Ytlpheckjogphmaa

set_option linter.unusedSectionVars false
namespace Go.Eng
open Go Go.Proofs Go.NatM Go.RowKit Go.Proofs.Ytlpheckjogphmaa
theorem rowsF_in (F : Nat → Nat → Int) (r c : Nat) : InRC r c (rowsF F c r 0) := fun k hk => by
  unfold rowsF at hk
  by_cases h : (0 ≤ k.1 ∧ 0 ≤ k.2 ∧ k.2 < (c : Int)) ∧ (k.1 < (r : Int) ∨ (k.1 = (r : Int) ∧ k.2 < ((0 : Nat) : Int)))
  · omega
  · rw [if_neg h] at hk; exact absurd rfl hk
theorem gz_n {H : Array Obj} {g m r c N : Nat} {Z : ZF} (h : GZ H g m r c Z N) (hi : InRC r c Z) (hrc : r * c ≤ 4096) : N ≤ 4096 := by
  obtain ⟨l, hG, hz, rfl, hv⟩ := h
  have := inrc_len (Gr.nodup hG) fun k hk => hi k (by rw [← hv]; exact (hz.keys k).1 hk)
  rw [List.length_map] at this
  omega
end Go.Eng
namespace Go.Proofs.Ytlpheckjogphmaa
open Go Go.Eng Go.Proofs Go.NatM Go.RowKit
end Go.Proofs.Ytlpheckjogphmaa

set_option linter.unusedSectionVars false
namespace Go.Eng
open Go Go.Proofs Go.NatM Go.RowKit Go.Proofs.Ytlpheckjogphmaa
end Go.Eng
namespace Go.Proofs.Ytlpheckjogphmaa
open Go Go.Eng Go.Proofs Go.NatM Go.RowKit
/-- a change of a grid: an error's number and a function -/
def RetCh (w : World) (g m r c : Nat) (Z : ZF) (er : Int) (e : Ending) (w' : World) : Prop := ∃ N', e = .returned (.int .i64 er) ∧ Exs (fun k => k = m) w w' ∧ GZ w'.heap g m r c Z N'
theorem RetCh.of {w w' : World} {g m r c N : Nat} {Z : ZF} {er : Int} {e : Ending} (h : GZ w.heap g m r c Z N) (he : e = .returned (.int .i64 er)) (hE : Ext w w') : RetCh w g m r c Z er e w' := ⟨N, he, Exs.of hE, h.ext hE⟩
end Go.Proofs.Ytlpheckjogphmaa

namespace Go.Eng
open Go Go.RowKit
section
variable {P : Program} {R : Option Nat} {N : Fm} {Q : Exit → Act → World → Prop} {σ : Store} {w : World}
/-- a loop whose rounds leave marks -/
theorem TI.loopM {α : Type} {c : Code} (Nf : α → Fm) (st : α → Store) (I : α → World → Prop) (μ : α → Nat) (x0 : α) (hN : Nf x0 = N) (hs : Sub (st x0) σ) (h0 : I x0 w)
    (round : ∀ x w, I x w → TI P R (Nf x) c (Exit.then (fun a' w' => ∃ x', Rep (Nf x') (st x') a' ∧ I x' w' ∧ μ x' < μ x) Q) (st x) w) : TI P R N (.loop c) Q σ w := by
  refine TI.mk fun hno a ha => ?_
  intro b k cs hro hb hr
  have key : ∀ j x a w, μ x = j → Rep (Nf x) (st x) a → I x w →
      ∃ e a' w', Q e a' w' ∧ ArrivesIn (Machine.fenced P (wideR R)) P (lone (b.atR a (.code c :: .inLoop c :: k)) cs w) b k cs e a' w' := by
    intro j
    induction j using Nat.strongRecOn with
    | _ j ih =>
      intro x a w hx hrr hI
      obtain ⟨e, a₁, w₁, hq, harr⟩ := (round x w hI).run hno hrr b (.inLoop c :: k) cs hro hb hr
      cases e with
      | normal =>
        obtain ⟨x', hr', hI', hlt⟩ := hq
        obtain ⟨e₂, a₂, w₂, hq₂, harr₂⟩ := ih (μ x') (hx ▸ hlt) x' a₁ w₁ rfl hr' hI'
        exact ⟨e₂, a₂, w₂, hq₂, .of_steps (StepsIn.trans harr (.one (fenced_calm (n := 0) hb hr rfl) stepR_inLoop)) harr₂⟩
      | exit id => exact ⟨_, a₁, w₁, hq, .pass (x := .inLoop c) rfl (fun _ _ => .inl (by simp)) harr⟩
      | goto l => exact ⟨_, a₁, w₁, hq, .pass (x := .inLoop c) rfl (fun _ _ => .inl (by simp)) harr⟩
      | ret => exact ⟨_, a₁, w₁, hq, .pass (x := .inLoop c) rfl (fun _ _ => .inl (by simp)) harr⟩
      | panic ch => exact ⟨_, a₁, w₁, hq, .pass (x := .inLoop c) rfl (fun _ _ => .inl (by simp)) harr⟩
      | outgrown => exact ⟨_, a₁, w₁, hq, .pass (x := .inLoop c) rfl (fun _ _ => .inl (by simp)) harr⟩
  obtain ⟨e, a', w', hq, harr⟩ := key _ x0 a w rfl (hN ▸ ha.sub hs) h0
  exact ⟨e, a', w', hq, .of_steps (.one (fenced_calm (n := 0) hb hr rfl) stepR_loop) harr⟩
theorem G.againM {α : Type} {st : α → Store} {I : α → World → Prop} {μ : α → Nat} {m : Nat} {Nf : α → Fm} (x' : α) (hN : Nf x' = N) (hs : Sub (st x') σ) (hI : I x' w) (hμ : μ x' < m) :
    G N .normal (Exit.then (fun a' w' => ∃ x', Rep (Nf x') (st x') a' ∧ I x' w' ∧ μ x' < m) Q) σ w := by unfold G; exact fun a ha => ⟨x', hN ▸ ha.sub hs, hI, hμ⟩
end
theorem TI.rangeFuncM {P : Program} {n : Nat} {ds : List Deferred} {Q : Exit → Act → World → Prop} {σ : Store} {w : World} {g : Operand} {ps : List Nat} {assign body : Code} {gf : FuncId} {cap : List Value} {β : Type} {args : β → List Value} {m : Nat} {It : World → Prop} {Fx : Nat → β → World → World → Prop}
    (hIt : Iter P gf cap args m It Fx) (hg : look σ g = some (.func (.func gf) #[] cap.toArray)) (hfn : IsFn P gf) (hps : ∀ x, (args x).length = ps.length) (hpn : ps.all (fun p => Nat.blt p n) = true)
    (it0 : It w) (hItc : ∀ W W', It W → Cx w.heap.size W W' → It W')
    (I : Nat → World → Prop) (Ix : Code → World → Prop) (hI : ∀ i W W', I i W → Cx w.heap.size W W' → I i W') (hIx : ∀ c W W', Ix c W → Cx w.heap.size W W' → Ix c W') (h0 : I 0 w)
    (hround : ∀ l i x Wb W, i < m → w.heap.size + 1 ≤ l → (∃ r, W.heap[l]? = some (.loop r)) → I i Wb → It Wb → Ext Wb W → Fx i x Wb W → TI P (some l) ⟨n, []⟩ assign (Exit.then (BegunK P w.heap.size l body (fun w' => I (i + 1) w' ∧ It w') Ix W) (fun _ _ _ => False)) (putAll ps (args x) σ) W)
    (hdone : ∀ D w', w.heap.size ≤ D → w'.heap[D]? = some (.deferred (some [])) → I m w' → It w' → G ⟨n, markOf D :: ds⟩ .normal Q σ w')
    (hstop : ∀ D c w', w.heap.size ≤ D → w'.heap[D]? = some (.deferred (some [])) → Ix c w' → TI P none ⟨n, markOf D :: ds⟩ c Q σ w') :
    TI P none ⟨n, ds⟩ (.rangeFunc g ps.toArray assign body) Q σ w := by
  refine TI.mk fun hno a ha => ?_
  refine wpIn_rangeFunc (F := wideR none) (n := 0) ?_
  intro fn _
  have hnd : a.defers = ds := ha.nodef
  obtain ⟨rec, hrec⟩ : ∃ rec : LoopState → Option Code → Loop, rec = fun st pe => { state := st, pending := pe, fn, tmps := a.tmps, params := ps.toArray, assign, body, defers := w.heap.size } := ⟨_, rfl⟩
  obtain ⟨W1, hW1⟩ : ∃ W1, (w.alloc (.deferred (some []))).alloc (.loop (rec .ready none)) = W1 := ⟨_, rfl⟩
  have hE1 : Ext w W1 := by rw [← hW1]; exact Ext.trans (ext_alloc _ _) (ext_alloc _ _)
  have hL1 : W1.heap[w.heap.size + 1]? = some (.loop (rec .ready none)) := by
    rw [← hW1]; have := World.alloc_heap_new (w.alloc (.deferred (some []))) (.loop (rec .ready none)); rwa [World.size_alloc] at this
  have hK1 : W1.heap[w.heap.size]? = some (.deferred (some [])) := by
    rw [← hW1]; exact (Below.heap_alloc _ _ _ (by simp)).trans (World.alloc_heap_new w _)
  have ef := ha.agree _ _ hg
  refine ⟨w.heap.size + 1, [markOf w.heap.size], W1, { target := .fn (.func gf) cap.toArray, args := #[.func (.yield (w.heap.size + 1)) #[] #[]] }, W1, gf,
    (Value.func (.yield (w.heap.size + 1)) #[] #[] :: cap).toArray, W1, ?_, ?_, fun _ _ => trivial, ?_, fun e => (by cases e), ?_⟩
  · rw [← hW1, hrec]; exact run_enterLoop_outer _ _ _ _ _
  · simp only [resolve, ef]
    simp [go_sem]
  · simp [invoke, run_callFunc_enter hfn]
  · have recE : ∀ {W W' : World} {o : Obj} {k : Nat}, W.heap[k]? = some o → Ext W W' → W'.heap[k]? = some o := fun h hE => (hE.block _ (Array.getElem?_eq_some_iff.1 h).1).trans h
    refine calls_in ((hIt (w.heap.size + 1) (fun i W => I i W ∧ W.heap[w.heap.size + 1]? = some (.loop (rec .ready none)) ∧ W.heap[w.heap.size]? = some (.deferred (some [])))
      (fun W => ∃ c, Ix c W ∧ W.heap[w.heap.size + 1]? = some (.loop (rec .done (some c))) ∧ W.heap[w.heap.size]? = some (.deferred (some []))) W1
      (fun i W W' h hE => ⟨hI i W W' h.1 (.of hE), recE h.2.1 hE, recE h.2.2 hE⟩) (fun W W' ⟨c, h⟩ hE => ⟨c, hIx c W W' h.1 (.of hE), recE h.2.1 hE, recE h.2.2 hE⟩)
      (hItc _ _ it0 (.of hE1)) ⟨hI _ _ _ h0 (.of hE1), hL1, hK1⟩ ?_).mono ?_)
    · rintro i x Wb W hi ⟨hi0, hl, hk⟩ hit hEb hfx
      replace hl := recE hl hEb
      replace hk := recE hk hEb
      have hlt : w.heap.size + 1 < W.heap.size := (Array.getElem?_eq_some_iff.1 hl).1
      have hy := run_yield (P := P) (args := (args x).toArray) hl (by rw [hrec]; simpa using hps x)
      rw [hrec] at hy
      refine ⟨fn, _, assign, body, hy, roundIn_of_wpIn (F := Fence.wide) (n := 0) trivial ?_⟩
      have hrep : Rep ⟨n, []⟩ (putAll ps (args x) σ) { tmps := (ps.toArray.zip (args x).toArray).foldl (fun t (x : Nat × Value) => t.setIfInBounds x.1 x.2) a.tmps, defers := [] } := by
        have := Rep.fold ps (args x) ha hpn
        have h3 : Rep ⟨n, []⟩ (putAll ps (args x) σ) { tmps := (ps.zip (args x)).foldl (fun t (x : Nat × Value) => t.setIfInBounds x.1 x.2) a.tmps, defers := [] } := ⟨this.size, rfl, this.get⟩
        simpa [List.zip_toArray] using h3
      refine wpIn_mono ((hround (w.heap.size + 1) i x Wb W hi (Nat.le_refl _) ⟨_, hl⟩ hi0 hit hEb hfx).run (fun _ _ h => h) hrep) ?_
      rintro e a₁ w₁ hq
      cases e with
      | normal =>
        obtain ⟨hk1, hbody⟩ := hq
        have hl1 := hk1.same _ _ hl rfl
        have hd1 := hk1.same _ _ hk rfl
        have hlt1 := (Array.getElem?_eq_some_iff.1 hl1).1
        refine ⟨_, run_beginRound hl1 (by rw [hrec]), ?_⟩
        have hc2 : Cx w.heap.size w₁ (w₁.putObj (w.heap.size + 1) (.loop { rec .ready none with state := .busy })) := .put _ (by omega) hl1 rfl
        have hl2 : (w₁.putObj (w.heap.size + 1) (.loop { rec .ready none with state := .busy })).heap[w.heap.size + 1]? = some (.loop { rec .ready none with state := .busy }) := World.putObj_heap_same hlt1
        have hk2 : (w₁.putObj (w.heap.size + 1) (.loop { rec .ready none with state := .busy })).heap[w.heap.size]? = some (.deferred (some [])) := (World.putObj_heap_other (by omega)).trans hd1
        refine wpIn_mono (hbody _ hc2 ⟨_, hl2⟩) ?_
        have fin : ∀ (jump : Option Code) (W3 : World), KeepO (w₁.putObj (w.heap.size + 1) (.loop { rec .ready none with state := .busy })) W3 →
            ∃ W4, (Instr.endRound (w.heap.size + 1) jump).run P W3 = .ok (.bool jump.isNone) W4 ∧ Cx w.heap.size W3 W4 ∧
            W4.heap[w.heap.size + 1]? = some (.loop (rec (if jump.isNone then .ready else .done) jump)) ∧ W4.heap[w.heap.size]? = some (.deferred (some [])) := fun jump W3 hk3 => by
          have hl3 := hk3.same _ _ hl2 rfl
          have := run_endRound (P := P) jump hl3
          refine ⟨_, this, .put _ (by omega) hl3 rfl, ?_, (World.putObj_heap_other (by omega)).trans (hk3.same _ _ hk2 rfl)⟩
          rw [World.putObj_heap_same (Array.getElem?_eq_some_iff.1 hl3).1, hrec]
        rintro e a3 W3 hp
        cases e with
        | normal =>
          obtain ⟨W4, hr, hc4, hl4, hk4⟩ := fin none W3 hp.1
          exact ⟨_, _, hr, .inl ⟨rfl, ⟨hI _ _ _ hp.2.1 hc4, hl4, hk4⟩, hItc _ _ hp.2.2 hc4⟩⟩
        | ret =>
          obtain ⟨W4, hr, hc4, hl4, hk4⟩ := fin (some .ret) W3 hp.1
          exact ⟨_, _, hr, .inr ⟨rfl, .ret, hIx _ _ _ hp.2 hc4, hl4, hk4⟩⟩
        | exit id =>
          obtain ⟨W4, hr, hc4, hl4, hk4⟩ := fin (some (.exit id)) W3 hp.1
          exact ⟨_, _, hr, .inr ⟨rfl, .exit id, hIx _ _ _ hp.2 hc4, hl4, hk4⟩⟩
        | goto t => exact hp.elim
        | panic ch => exact hp.elim
        | outgrown => exact hp.elim
      | _ => exact hq.elim
    · rintro e W2 ⟨⟨v, rfl⟩, (⟨⟨hi, hl, hk⟩, hit⟩ | ⟨c, hi, hl, hk⟩)⟩
      · have hc : Cx w.heap.size W2 (W2.putObj (w.heap.size + 1) (.loop { rec .ready none with state := .exhausted })) := .put _ (by omega) hl rfl
        have hq := hdone w.heap.size _ (Nat.le_refl _) ((World.putObj_heap_other (by omega)).trans hk) (hI _ _ _ hi hc) (hItc _ _ hit hc)
        unfold G at hq
        refine ⟨none, _, (run_endLoop (P := P) hl (by rw [hrec]; simp)).trans (congrArg (fun x => Result.ok x _) (show (rec .ready none).pending = none by rw [hrec])), ?_⟩
        exact hq _ ⟨ha.size, by simp [hnd], ha.get⟩
      · have hc : Cx w.heap.size W2 (W2.putObj (w.heap.size + 1) (.loop { rec .done (some c) with state := .exhausted })) := .put _ (by omega) hl rfl
        refine ⟨some c, _, (run_endLoop (P := P) hl (by rw [hrec]; simp)).trans (congrArg (fun x => Result.ok x _) (show (rec .done (some c)).pending = some c by rw [hrec])), ?_⟩
        exact (hstop w.heap.size c _ (Nat.le_refl _) ((World.putObj_heap_other (by omega)).trans hk) (hIx _ _ _ hi hc)).run hno ⟨ha.size, by simp [hnd], ha.get⟩

/-- marks' blocks, shut -/
def shutAll : List Nat → World → World
  | [], w => w
  | D :: l, w => shutAll l (w.putObj D (.deferred none))
/-- blocks of marks that are open, each its own -/
structure Marks (l : List Nat) (w : World) : Prop where
  nd : l.Nodup
  op : ∀ D ∈ l, w.heap[D]? = some (.deferred (some []))
theorem Marks.tail {D : Nat} {l : List Nat} {w : World} (h : Marks (D :: l) w) : Marks l (w.putObj D (.deferred none)) :=
  ⟨(List.nodup_cons.1 h.nd).2, fun E hE => (World.putObj_heap_other (fun e => by rw [e] at hE; exact (List.nodup_cons.1 h.nd).1 hE)).trans (h.op E (List.mem_cons_of_mem _ hE))⟩
theorem Marks.cx {B : Nat} : ∀ {l : List Nat} {w : World}, Marks l w → (∀ D ∈ l, B ≤ D) → Cx B w (shutAll l w)
  | [], w, _, _ => Cx.refl _ _
  | D :: l, w, h, hB => (Cx.shut (hB D (List.mem_cons_self ..)) (h.op D (List.mem_cons_self ..))).trans (h.tail.cx fun E hE => hB E (List.mem_cons_of_mem _ hE))
theorem Marks.cons {D : Nat} {l : List Nat} {w : World} (h : Marks l w) (hD : w.heap[D]? = some (.deferred (some []))) (hlt : ∀ E ∈ l, E < D) : Marks (D :: l) w :=
  ⟨List.nodup_cons.2 ⟨fun hm => Nat.lt_irrefl _ (hlt D hm), h.nd⟩, fun E hE => by
    rcases List.mem_cons.1 hE with rfl | hE
    · exact hD
    · exact h.op E hE⟩
theorem Marks.nil (w : World) : Marks [] w := ⟨List.nodup_nil, fun _ h => (by cases h)⟩
theorem Marks.keep {l : List Nat} {w w' : World} (h : Marks l w) (hK : KeepO w w') : Marks l w' := ⟨h.nd, fun D hD => hK.same D _ (h.op D hD) rfl⟩
theorem Marks.ext {l : List Nat} {w w' : World} (h : Marks l w) (hE : Ext w w') : Marks l w' := ⟨h.nd, fun D hD => (hE.block D (Array.getElem?_eq_some_iff.1 (h.op D hD)).1).trans (h.op D hD)⟩
theorem Marks.lt {l : List Nat} {w : World} (h : Marks l w) : ∀ D ∈ l, D < w.heap.size := fun D hD => (Array.getElem?_eq_some_iff.1 (h.op D hD)).1
section
variable {P : Program} {n : Nat} {σ : Store} {w : World} {fn : Func} {R : Ending → World → Prop}
theorem leavesM_marks {tmps : Array Value} {v : Value} : ∀ (l : List Nat) (w : World), Marks l w → (results fn tmps).run P (shutAll l w) = .ok v (shutAll l w) → R (.returned v) (shutAll l w) → LeavesInM Fence.wide 0 P fn tmps R (l.map markOf) .returning w
  | [], w, _, hr, h => leavesM hr h
  | D :: l, w, hM, hr, h => ⟨by simp, .inl ⟨_, _, rfl, run_takeDeferred (hM.op D (List.mem_cons_self ..)), leavesM_marks l _ hM.tail hr h⟩⟩
theorem G.retMsC1 {r : Nat} {ty : TypeId} {b : Nat} {v : Value} {l : List Nat} (hr : fn.results = #[.cell r ty]) (hp : look1 σ r = some (.pointer (some ⟨b, 0, none⟩))) (hM : Marks l w) (hH : Held P ty (shutAll l w) b v) (h : R (.returned v) (shutAll l w)) : G ⟨n, l.map markOf⟩ .ret (bodyPostM Fence.wide 0 P fn R) σ w := by
  unfold G
  intro a ha
  have hd := ha.nodef
  simp only [bodyPostM, hd]
  exact leavesM_marks l w hM (results_c1 hr (ha.get r _ hp) hH) h
end
end Go.Eng

namespace Go.Eng
open Go Go.RowKit

theorem Vr.exs {S : Nat → Prop} {w w' : World} {b : Nat} {t : TypeId} {cs : List Value} (hE : Exs S w w') (hS : ¬ S b) (h : Vr w.heap b t cs) : Vr w'.heap b t cs := (hE.block b h.lt hS).trans h
theorem Sl.exs {α : Type} {f : α → Value} {S : Nat → Prop} {w w' : World} {B n c : Nat} {A : Option Addr} {l : List α} (hE : Exs S w w') (hS : ∀ k, fpA A n k → ¬ S k) (h : Sl f w.heap B A n c l) : Sl f w'.heap B A n c l := by
  refine ⟨h.len, h.cap, ?_⟩
  rcases h.mem with h0 | ⟨b, o, e, hlt, hm⟩
  · exact .inl h0
  · rcases Nat.eq_zero_or_pos n with h0 | h0
    · exact .inl h0
    · have hl : 0 < l.length := by have := h.len; omega
      have hb := hcell_lt (hm 0 l[0] (List.getElem?_eq_getElem hl))
      exact .inr ⟨b, o, e, hlt, fun j x hx => hcell_eq (hE.block b hb (hS b ⟨h0, o, e⟩)) (hm j x hx)⟩
/-- the blocks of F are as they were -/
structure DEk (F : Nat → Prop) (H H' : Array Obj) : Prop where
  size : H.size ≤ H'.size
  block : ∀ k, k < H.size → F k → H'[k]? = H[k]?
/-- a fact on data, and the blocks that it looks at -/
structure DK where
  p : Array Obj → Prop
  fp : Nat → Prop
  lt : ∀ H k, p H → fp k → k < H.size
  st : ∀ H H', DEk fp H H' → p H → p H'
structure Fk (S : Nat → Prop) (w0 w : World) (L : List VB) (D : List DK) : Prop where
  exs : Exs S w0 w
  vars : ∀ v ∈ L, (w0.heap.size ≤ v.b ∨ S v.b) ∧ Vr w.heap v.b v.t v.cs
  dist : L.Pairwise (fun x y => x.b ≠ y.b)
  data : ∀ d ∈ D, d.p w.heap
  apart : ∀ v ∈ L, ∀ d ∈ D, ¬ d.fp v.b
  dd : D.Pairwise (fun d e => ∀ k, d.fp k → ¬ e.fp k)
  own : ∀ d ∈ D, ∀ k, d.fp k → w0.heap.size ≤ k ∨ S k
section
variable {S : Nat → Prop} {w0 w w' : World} {L L' : List VB} {D D' : List DK} {b : Nat} {t : TypeId} {cs r : List Value}
theorem Fk.refl (S : Nat → Prop) (w : World) : Fk S w w [] [] := ⟨Exs.refl _ _, fun _ h => (by cases h), List.Pairwise.nil, fun _ h => (by cases h), fun _ h => (by cases h), List.Pairwise.nil, fun _ h => (by cases h)⟩
theorem Fk.ext (h : Fk (fun _ => False) w0 w L D) : Ext w0 w := h.exs.ext0
theorem Fk.get (h : Fk S w0 w L D) {d : DK} (hd : d ∈ D) : d.p w.heap := h.data d hd
theorem Fk.exts (h : Fk S w0 w L D) (hE : Ext w w') : Fk S w0 w' L D :=
  ⟨h.exs.trans (.of hE), fun v hv => ⟨(h.vars v hv).1, (h.vars v hv).2.ext hE⟩, h.dist, fun d hd => d.st _ _ ⟨hE.size, fun k hk _ => hE.block k hk⟩ (h.data d hd), h.apart, h.dd, h.own⟩
/-- data in blocks that are not older than w -/
theorem Fk.addNew (h : Fk S w0 w L D) (hE : Ext w w') (d : DK) (hd : d.p w'.heap) (hn : ∀ k, d.fp k → w.heap.size ≤ k) : Fk S w0 w' L (d :: D) := by
  have h1 := h.exts hE
  refine ⟨h1.exs, h1.vars, h1.dist, fun x hx => ?_, fun v hv x hx => ?_, List.pairwise_cons.2 ⟨fun e he k hk hek => ?_, h1.dd⟩, fun x hx k hk => ?_⟩
  · rcases List.mem_cons.1 hx with rfl | hx
    · exact hd
    · exact h1.data x hx
  · rcases List.mem_cons.1 hx with rfl | hx
    · intro hk; have q1 := (h.vars v hv).2.lt; have q2 := hn _ hk; omega
    · exact h1.apart v hv x hx
  · have q1 := e.lt _ _ (h.data e he) hek; have q2 := hn _ hk; omega
  · rcases List.mem_cons.1 hx with rfl | hx
    · exact .inl (Nat.le_trans h.exs.size (hn _ hk))
    · exact h1.own x hx k hk
theorem Fk.var (h : Fk S w0 w L D) (hv : InV L b t cs) : Vr w.heap b t cs := (h.vars _ hv.mem).2
theorem Fk.new (h : Fk S w0 w L D) (hb : b = w.heap.size) (hV : Vr w'.heap b t cs) (hE : Ext w w') : Fk S w0 w' (⟨b, t, cs⟩ :: L) D := by
  have h1 := h.exts hE
  refine ⟨h1.exs, fun v hv => ?_, List.pairwise_cons.2 ⟨fun v hv e => ?_, h.dist⟩, h1.data, fun v hv d hd => ?_, h1.dd, h1.own⟩
  · rcases List.mem_cons.1 hv with rfl | hv
    · exact ⟨.inl (by rw [hb]; exact h.exs.size), hV⟩
    · exact h1.vars v hv
  · have := (h.vars v hv).2.lt
    simp only at e
    omega
  · rcases List.mem_cons.1 hv with rfl | hv
    · intro hk
      have := d.lt _ _ (h.data d hd) hk
      simp only at this
      omega
    · exact h.apart v hv d hd
/-- a block known whole is written -/
theorem Fk.store (h : Fk S w0 w L D) (hS : SetV L b t cs r L') (hu : Upd b w w') (hV : Vr w'.heap b t r) : Fk S w0 w' L' D := by
  have hb := (h.vars _ hS.inV.mem).1
  have hap := fun d hd => h.apart _ hS.inV.mem d hd
  refine ⟨h.exs.then hu.exs fun i hi e => ?_, ?_, ?_, fun d hd => d.st _ _ ⟨Nat.le_of_eq hu.size.symm, fun k _ hk => hu.block k fun e => hap d hd (e ▸ hk)⟩ (h.data d hd), ?_, h.dd, h.own⟩
  · subst e
    rcases hb with hb | hb
    · simp only at hb; omega
    · exact hb
  · intro v hv
    obtain ⟨pre, post, e1, e2⟩ := hS.split
    subst e1 e2
    have hdist := h.dist
    rw [List.pairwise_append] at hdist
    have hq : ∀ v, v ∈ pre ∨ v ∈ post → (w0.heap.size ≤ v.b ∨ S v.b) ∧ Vr w'.heap v.b v.t v.cs := by
      intro v hv
      have hm : v ∈ pre ++ (⟨b, t, cs⟩ : VB) :: post := by
        rcases hv with hv | hv
        · exact List.mem_append_left _ hv
        · exact List.mem_append_right _ (List.mem_cons_of_mem _ hv)
      have hne : v.b ≠ b := by
        rcases hv with hv | hv
        · exact hdist.2.2 v hv _ (List.mem_cons_self ..)
        · exact fun e => (List.pairwise_cons.1 hdist.2.1).1 v hv e.symm
      exact ⟨(h.vars v hm).1, (h.vars v hm).2.upd hu hne⟩
    rcases List.mem_append.1 hv with hv | hv
    · exact hq v (.inl hv)
    · rcases List.mem_cons.1 hv with rfl | hv
      · exact ⟨hb, hV⟩
      · exact hq v (.inr hv)
  · obtain ⟨pre, post, e1, e2⟩ := hS.split
    subst e1 e2
    have hdist := h.dist
    rw [List.pairwise_append, List.pairwise_cons] at hdist ⊢
    refine ⟨hdist.1, ⟨fun v hv => hdist.2.1.1 v hv, hdist.2.1.2⟩, fun x hx y hy => ?_⟩
    rcases List.mem_cons.1 hy with rfl | hy
    · exact hdist.2.2 x hx ⟨b, t, cs⟩ (List.mem_cons_self ..)
    · exact hdist.2.2 x hx y (List.mem_cons_of_mem _ hy)
  · intro v hv d hd
    obtain ⟨pre, post, e1, e2⟩ := hS.split
    subst e1 e2
    rcases List.mem_append.1 hv with hv | hv
    · exact h.apart v (List.mem_append_left _ hv) d hd
    · rcases List.mem_cons.1 hv with rfl | hv
      · exact hap d hd
      · exact h.apart v (List.mem_append_right _ (List.mem_cons_of_mem _ hv)) d hd
theorem Fk.weak (h : Fk S w0 w L' D') (hL : L.Sublist L') (hD : D.Sublist D') : Fk S w0 w L D :=
  ⟨h.exs, fun v hv => h.vars v (hL.subset hv), h.dist.sublist hL, fun d hd => h.data d (hD.subset hd), fun v hv d hd => h.apart v (hL.subset hv) d (hD.subset hd), h.dd.sublist hD, fun d hd => h.own d (hD.subset hd)⟩
inductive SetD : List DK → DK → DK → List DK → Prop
  | head {D : List DK} {d e : DK} : SetD (d :: D) d e (e :: D)
  | tail {x d e : DK} {D D' : List DK} : SetD D d e D' → SetD (x :: D) d e (x :: D')
theorem SetD.mem {D D' : List DK} {d e : DK} (h : SetD D d e D') : d ∈ D := by
  induction h with
  | head => exact List.mem_cons_self ..
  | tail _ ih => exact List.mem_cons_of_mem _ ih
theorem SetD.split {D D' : List DK} {d e : DK} (h : SetD D d e D') : ∃ pre post, D = pre ++ d :: post ∧ D' = pre ++ e :: post := by
  induction h with
  | head => exact ⟨[], _, rfl, rfl⟩
  | @tail x d e D D' _ ih =>
    obtain ⟨pre, post, h1, h2⟩ := ih
    exact ⟨x :: pre, post, by rw [h1]; rfl, by rw [h2]; rfl⟩
/-- the facts D1 are given up: their blocks may be written -/
theorem Fk.drop (h : Fk S w0 w L D) (D1 D2 : List DK) (h1 : ∀ d ∈ D1, d ∈ D) (h2 : D2.Sublist D) {F : Nat → Prop} (hE : Exs F w w') (hF : ∀ k, F k → ∃ d ∈ D1, d.fp k) (hap : ∀ x ∈ D2, ∀ d ∈ D1, ∀ k, x.fp k → ¬ d.fp k) : Fk S w0 w' L D2 := by
  have hs := h2.subset
  refine ⟨h.exs.then hE fun i hi hf => ?_, fun v hv => ⟨(h.vars v hv).1, (h.vars v hv).2.exs hE fun hk => ?_⟩, h.dist, fun x hx => x.st _ _ ⟨hE.size, fun k hk hf => hE.block k hk fun he => ?_⟩ (h.data x (hs hx)), fun v hv x hx => h.apart v hv x (hs hx), h.dd.sublist h2, fun x hx => h.own x (hs hx)⟩
  · obtain ⟨d, hd, hk⟩ := hF i hf
    exact (h.own d (h1 d hd) i hk).resolve_left (by omega)
  · obtain ⟨d, hd, hk⟩ := hF _ hk
    exact h.apart v hv d (h1 d hd) hk
  · obtain ⟨d, hd, hk'⟩ := hF _ he
    exact hap x hx d hd k hf hk'
/-- D1 and D2 are parts of D -/
inductive Mrg : List DK → List DK → List DK → Prop
  | nil : Mrg [] [] []
  | l {x : DK} {D1 D2 D : List DK} : Mrg D1 D2 D → Mrg (x :: D1) D2 (x :: D)
  | r {x : DK} {D1 D2 D : List DK} : Mrg D1 D2 D → Mrg D1 (x :: D2) (x :: D)
theorem Mrg.left {D1 D2 D : List DK} (h : Mrg D1 D2 D) : D1.Sublist D := by
  induction h with
  | nil => exact List.Sublist.refl _
  | l _ ih => exact ih.cons_cons _
  | r _ ih => exact ih.cons _
theorem Mrg.right {D1 D2 D : List DK} (h : Mrg D1 D2 D) : D2.Sublist D := by
  induction h with
  | nil => exact List.Sublist.refl _
  | l _ ih => exact ih.cons _
  | r _ ih => exact ih.cons_cons _
theorem Mrg.apart {D1 D2 D : List DK} (h : Mrg D1 D2 D) (hp : D.Pairwise (fun d e => ∀ k, d.fp k → ¬ e.fp k)) : ∀ x ∈ D2, ∀ d ∈ D1, ∀ k, x.fp k → ¬ d.fp k := by
  induction h with
  | nil => intro x hx; cases hx
  | @l y D1 D2 D hm ih =>
    rw [List.pairwise_cons] at hp
    intro x hx d hd k hk hk'
    rcases List.mem_cons.1 hd with rfl | hd
    · exact hp.1 x (hm.right.subset hx) k hk' hk
    · exact ih hp.2 x hx d hd k hk hk'
  | @r y D1 D2 D hm ih =>
    rw [List.pairwise_cons] at hp
    intro x hx d hd k hk hk'
    rcases List.mem_cons.1 hx with rfl | hx
    · exact hp.1 d (hm.left.subset hd) k hk hk'
    · exact ih hp.2 x hx d hd k hk hk'
/-- two facts of the list -/
theorem Fk.two (h : Fk S w0 w L D) {D1 D2 : List DK} {d e : DK} (hD : D = D1 ++ d :: D2) (he : e ∈ D1 ∨ e ∈ D2) : ∀ k, d.fp k → ¬ e.fp k := by
  subst hD
  have hdd := h.dd
  rw [List.pairwise_append, List.pairwise_cons] at hdd
  intro k hk hk'
  rcases he with he | he
  · exact hdd.2.2 e he d (List.mem_cons_self ..) k hk' hk
  · exact hdd.2.1.1 e he k hk hk'
end

/-! ### Steps -/
section
variable {P : Program} {N : Fm} {Q : Exit → Act → World → Prop} {σ : Store} {S : Nat → Prop} {w0 w : World} {L : List VB} {D : List DK} {ops : Array Oper} {d : Nat} {t : TypeId} {pos : String} {af : Array Edge} {rest : List Oper} {l : List Oper}
end
section
variable {P : Program} {σ : Store} {d : Option Tmp} {t : TypeId} {pos : String} {af : Array Edge} {gd : Option (Nat × Bool)} {S : Nat → Prop} {w0 w : World} {L : List VB} {D : List DK}
end

/-! ### Lists of words that have a block of their own -/
theorem putO_set : ∀ {cs : List Value} {k : Nat} (v : Value), k < cs.length → putO cs k [v] = some (cs.set k v)
  | [], k, v, h => by simp at h
  | a :: cs, 0, v, h => by simp [putO]
  | a :: cs, k + 1, v, h => by
    have := putO_set (cs := cs) (k := k) v (by simpa using h)
    simp only [putO, this, List.set_cons_succ]
theorem ow_iff {α : Type} {f : α → Value} {H : Array Obj} {lo : Nat} {t : TypeId} {A : Option Addr} {n c : Nat} {l : List α} : Ow f H lo t A n c l ↔ l.length = n ∧ ((A = none ∧ n = 0 ∧ c = 0) ∨ ∃ g cur, A = some ⟨g, 0, none⟩ ∧ lo ≤ g ∧ H[g]? = some (.cells cur t (0, 0)) ∧ n ≤ c ∧ c ≤ maxLen ∧ cur.size = c ∧ cur.toList.take n = l.map f) := by unfold Ow; exact Iff.rfl
section
variable {H : Array Obj} {t : TypeId} {A : Option Addr} {n c : Nat} {l : List Nat}
/-- a list at the head of a block of its own -/
def dkO (t : TypeId) (A : Option Addr) (n c : Nat) (l : List Nat) : DK where
  p H := Ow u64v H 0 t A n c l
  fp k := A = some ⟨k, 0, none⟩
  lt H k h hk := by
    rcases (ow_iff.1 h).2 with ⟨e, _⟩ | ⟨g, cur, e, _, hg, _⟩
    · rw [e] at hk; cases hk
    · rw [e] at hk; cases hk; exact (Array.getElem?_eq_some_iff.1 hg).1
  st H H' hd h := by
    have h' := ow_iff.1 h
    refine ow_iff.2 ⟨h'.1, h'.2.imp id ?_⟩
    rintro ⟨g, cur, e, h1, hg, h2⟩
    exact ⟨g, cur, e, h1, (hd.block g (Array.getElem?_eq_some_iff.1 hg).1 e).trans hg, h2⟩
theorem Ow.at0 {α : Type} {f : α → Value} {l : List α} {lo : Nat} (h : Ow f H lo t A n c l) : Ow f H 0 t A n c l := h.mono (Nat.zero_le _)
theorem Fk.o {S : Nat → Prop} {w0 w : World} {L : List VB} {D : List DK} (h : Fk S w0 w L D) (hm : dkO t A n c l ∈ D) : Ow u64v w.heap 0 t A n c l := h.data _ hm
theorem Fk.sl {S : Nat → Prop} {w0 w : World} {L : List VB} {D : List DK} (h : Fk S w0 w L D) (hm : dkO t A n c l ∈ D) : Sl u64v w.heap w.heap.size A n c l := (h.o hm).sl (Nat.le_refl _)
theorem Ow.exs {α : Type} {f : α → Value} {l : List α} {S : Nat → Prop} {w w' : World} {lo : Nat} (hE : Exs S w w') (hS : ∀ k, A = some ⟨k, 0, none⟩ → ¬ S k) (h : Ow f w.heap lo t A n c l) : Ow f w'.heap lo t A n c l := by
  have h' := ow_iff.1 h
  refine ow_iff.2 ⟨h'.1, h'.2.imp id ?_⟩
  rintro ⟨g, cur, e, h1, hg, h2⟩
  exact ⟨g, cur, e, h1, (hE.block g (Array.getElem?_eq_some_iff.1 hg).1 (hS g e)).trans hg, h2⟩
theorem Ow.de {α : Type} {f : α → Value} {l : List α} {F : Nat → Prop} {H' : Array Obj} {lo : Nat} (hE : DEk F H H') (hS : ∀ k, A = some ⟨k, 0, none⟩ → F k) (h : Ow f H lo t A n c l) : Ow f H' lo t A n c l := by
  have h' := ow_iff.1 h
  refine ow_iff.2 ⟨h'.1, h'.2.imp id ?_⟩
  rintro ⟨g, cur, e, h1, hg, h2⟩
  exact ⟨g, cur, e, h1, (hE.block g (Array.getElem?_eq_some_iff.1 hg).1 (hS g e)).trans hg, h2⟩
theorem Ow.blt {α : Type} {f : α → Value} {l : List α} {lo : Nat} (h : Ow f H lo t A n c l) {k : Nat} (hk : A = some ⟨k, 0, none⟩) : k < H.size := by
  rcases (ow_iff.1 h).2 with ⟨e, _⟩ | ⟨g, cur, e, _, hg, _⟩
  · rw [e] at hk; cases hk
  · rw [e] at hk; cases hk; exact (Array.getElem?_eq_some_iff.1 hg).1
end
section
variable {P : Program} {N : Fm} {Q : Exit → Act → World → Prop} {σ : Store} {w : World} {ops : Array Oper} {d : Nat} {t : TypeId} {pos : String} {af : Array Edge} {rest : List Oper}
/-- a word stored into a list with a block of its own -/
theorem TL.storeOw {x y : Operand} {ty e : TypeId} {z0 : Value} {b1 : Nat} [hS : USize P ty z0 1 b1] {A : Option Addr} {n c k lo : Nat} {l : List Nat} {zu : Int} {u : Nat} [eu : IsN zu u]
    (hx : look σ x = some (.pointer (elemA A k))) (hy : look σ y = some (.int .u64 zu)) (hO : Ow u64v w.heap lo e A n c l) (hk : k < n)
    (K : ∀ w', Ow u64v w'.heap lo e A n c (l.set k u) → Exs (fun j => A = some ⟨j, 0, none⟩) w w' → TL P N .seq ops Q rest σ w') :
    TL P N .seq ops Q (⟨none, .store ty x y, t, pos, af, none⟩ :: rest) σ w := by
  obtain ⟨hl, h⟩ := ow_iff.1 hO
  rcases h with ⟨_, h0, _⟩ | ⟨g, cur, rfl, hlo, hg, hnc, hcm, hsz, htk⟩
  · omega
  · have hV : Vr w.heap g e cur.toList := by unfold Vr; simpa using hg
    have hlen : cur.toList.length = c := by simpa using hsz
    have hput := putO_set (k := k) (u64v u) (show k < cur.toList.length by omega)
    refine TL.storeV (b := g) (o := k) (e := e) (cs := cur.toList) (v := u64v u) (by rw [hx]; simp [elemA, add_mk]) (by rw [hy, eu.out]; rfl) rfl rfl hV hput fun w' hV' hu => K w' (ow_iff.2 ⟨by simpa using hl, .inr ⟨g, (cur.toList.set k (u64v u)).toArray, rfl, hlo, hV', hnc, hcm, by simp [hsz], ?_⟩⟩) (hu.exs.mono fun j _ e => by rw [e])
    simp only [List.take_set, htk]
    exact (List.map_set).symm
end
section
variable {α : Type} {f : α → Value} {H : Array Obj} {t : TypeId} {A : Option Addr} {n c : Nat} {l : List α}
/-- a list, of whatever elements of one cell, at the head of a block of its own -/
def dkOG {α : Type} (f : α → Value) (t : TypeId) (A : Option Addr) (n c : Nat) (l : List α) : DK where
  p H := Ow f H 0 t A n c l
  fp k := A = some ⟨k, 0, none⟩
  lt H k h hk := h.blt hk
  st H H' hd h := h.de hd fun k hk => hk
theorem Fk.og {S : Nat → Prop} {w0 w : World} {L : List VB} {D : List DK} (h : Fk S w0 w L D) (hm : dkOG f t A n c l ∈ D) : Ow f w.heap 0 t A n c l := h.data _ hm
end
attribute [irreducible] dkO dkOG

end Go.Eng

set_option linter.unusedSectionVars false
namespace Go.Eng
open Go Go.Proofs Go.NatM Go.RowKit Go.Proofs.Ytlpheckjogphmaa
/-- a list of words at the head of a block of its own, as a fact of frames -/
theorem Ow.blt' {α : Type} {f : α → Value} {H : Array Obj} {t : TypeId} {A : Option Addr} {n c lo : Nat} {l : List α} (h : Ow f H lo t A n c l) {k : Nat} (hk : A = some ⟨k, 0, none⟩) : k < H.size := by
  unfold Ow at h
  rcases h.2 with ⟨e, _⟩ | ⟨g, cur, e, _, hg, _⟩
  · rw [e] at hk; cases hk
  · rw [e] at hk; cases hk; exact (Array.getElem?_eq_some_iff.1 hg).1
theorem Ow.lo' {α : Type} {f : α → Value} {H : Array Obj} {t : TypeId} {A : Option Addr} {n c lo : Nat} {l : List α} (h : Ow f H lo t A n c l) {k : Nat} (hk : A = some ⟨k, 0, none⟩) : lo ≤ k := by
  unfold Ow at h
  rcases h.2 with ⟨e, _⟩ | ⟨g, cur, e, hl, hg, _⟩
  · rw [e] at hk; cases hk
  · rw [e] at hk; cases hk; exact hl
def dpOw (lo : Nat) (t : TypeId) (A : Option Addr) (n c : Nat) (l : List Nat) : DP := ⟨fun H => Ow u64v H lo t A n c l, fun k => A = some ⟨k, 0, none⟩, fun _ _ h hk => h.blt' hk, fun H H' hd h => by
  unfold Ow at h ⊢
  refine ⟨h.1, h.2.imp id ?_⟩
  rintro ⟨g, cur, e, hlo, hg, r⟩
  exact ⟨g, cur, e, hlo, (hd.block g _ _ _ hg (.inl e)).trans hg, r⟩⟩
section
variable {S : Nat → Prop} {w0 w w' : World} {L : List VB} {D : List DP} {lo : Nat} {t : TypeId} {A : Option Addr} {n c : Nat} {l : List Nat}
theorem Fr.addOw (h : Fr w0 w L D S) (hE : Ext w w') (hO : Ow u64v w'.heap w.heap.size t A n c l) (hlo : lo ≤ w.heap.size) : Fr w0 w' L (dpOw lo t A n c l :: D) S := h.addNew hE _ (by unfold dpOw; exact hO.mono hlo) fun k hk => by unfold dpOw at hk; exact hO.lo' hk
theorem Fr.ow (h : Fr w0 w L D S) (hm : dpOw lo t A n c l ∈ D) : Ow u64v w.heap lo t A n c l := by have := h.data _ hm; unfold dpOw at this; exact this
theorem nf_ow {m : Nat} (h : ∀ k, A = some ⟨k, 0, none⟩ → k ≠ m) : ¬ (dpOw lo t A n c l).fp m := by unfold dpOw; exact fun e => h m e rfl
end
end Go.Eng
namespace Go.Proofs.Ytlpheckjogphmaa
open Go Go.Eng Go.Proofs Go.NatM Go.RowKit
/-- a new integer in least form, its words in a block of their own -/
def RetZO (w : World) (z : Int) (K : Nat) (e : Ending) (w' : World) : Prop := ∃ x : IV, e = .returned (ivA x) ∧ LI w'.heap z x ∧ Ext w w' ∧ x.m.n ≤ K ∧ Ow u64v w'.heap w.heap.size 91 x.m.A x.m.n x.m.c x.m.l
theorem zleastO (w : World) (x : IV) (g : GI w.heap x) (hn : x.m.n ≤ 35184372088832) : Cl Try.prog 50 #[ivA x] w (RetZO w (ival x) x.m.n) := by
  have hl := fun w1 (hE : Ext w w1) => least_ok w1 _ x.m.A x.m.n x.m.c x.m.l (g.s.ext hE) g.u hn
  obtain ⟨xs, ⟨xA, xn, xc, xl⟩⟩ := x
  dsimp only at hl hn
  refine enter Try.func50 rfl rfl rfl ?_
  have hF := Fr.refl w
  repeat' (first | (refine TL.isOp ?_; first | (refine TL.isCall ?_; refine TL.call rfl rfl ?_; first | (refine (hl _ hF.ext).mono ?_; rintro _ wl ⟨Al, nl, cl, rfl, hOl, hEl, hKl⟩; replace hF := Fr.addOw (lo := w.heap.size) hF hEl hOl hF.exs.size; clear hOl hEl; refine Back.mk ?_) | (refine (of_ok _ _ _ _ _ _ ((Fr.ow hF (by repeat (first | exact memH | apply memT))).sl (Nat.le_refl _))).mono ?_; rintro _ wo ⟨rfl, hLo, hEo⟩; replace hF := Fr.addLI (hF.exts hEo) hLo; clear hLo hEo; refine Back.mk ?_)) | (refine TL.storeAFr hF rfl rfl rfl rfl (by refine ⟨?_, ?_⟩; (focus (repeat (first | apply SetV.head | apply SetV.tail))); rfl) rfl ?_; clear hF; intro ws hF) | (refine TL.boxAFr hF (d := 1) (cs := [.bool xs, .slice xA xn xc]) rfl rfl ?_; clear hF; intro w1 b1 hF) | (refine TL.allocFr hF (d := 2) rfl rfl ?_; clear hF; intro w2 b2 hF)) | (refine TF.is ?_; first | refine TF.nil ?_ | refine TF.e rfl ?_ | (refine TF.pick rfl ?_; first | (apply TFo.ev; (case hd => rfl); (case h => (intro wh hF; first | (apply Ev.isLoad; first | exact ev_loadFr hF rfl (by refine ⟨?_, ?_⟩; (focus (repeat (first | exact InV.head | apply InV.tail))); rfl)) | exact ev_fieldAddr rfl))))) | (refine T.is ?_; first | refine T.seq ?_ | refine T.region ?_ | refine T.ret ?_ | (refine T.regionFt hF 1 6 (.s 0 (.s 1 (.s 2 (.s 3 (.e 4 (.e 5 (.e 6 .nil))))))) mixed (by kernel_rfl) ?_; clear hF; intro wr hF)) | (refine G.is ?_; first | refine G.next ?_ | refine G.only ?_ | refine G.treeEnd rfl ?_ | refine G.tree rfl (by first | exact hF | exact hF.weak (List.sublist_append_right _ _) (by repeat (first | exact allR | apply allT)) | exact hF.weak (by repeat (first | exact List.Sublist.refl _ | apply List.Sublist.cons)) (by repeat (first | exact allR | apply allT)) | exact hF.weak (by repeat (first | exact List.Sublist.refl _ | apply List.Sublist.cons)) (by repeat (first | exact allN | refine allH (by repeat (first | exact memH | apply memT)) ?_))) ?_) | refine TL.nil ?_)
  all_goals exact G.retC1 rfl rfl (held_agg (hF.var (b := b2) (by repeat (first | exact InV.head | apply InV.tail))) rfl) ⟨_, rfl, Fr.li hF (by repeat (first | exact memH | apply memT)), hF.ext, hKl, Fr.ow hF (by repeat (first | exact memH | apply memT))⟩
set_option maxHeartbeats 4000000 in
theorem spoilO (w : World) (x : IV) (lo : Nat) (hO : Ow u64v w.heap lo 91 x.m.A x.m.n x.m.c x.m.l) (hn : x.m.n ≤ 1099511627776) :
    Cl Try.prog 18 #[ivA x] w (fun e w' => e = .returned (.tuple #[]) ∧ Exs (fun k => x.m.A = some ⟨k, 0, none⟩) w w') := by
  obtain ⟨xs, ⟨xA, xn, xc, xl⟩⟩ := x
  dsimp only at hO hn ⊢
  have hA : ∀ k, xA = some ⟨k, 0, none⟩ → k < w.heap.size := fun k hk => hO.blt' hk
  refine enter Try.func18 rfl rfl rfl ?_
  have hF := Fr.refl w
  repeat' (first | (refine TL.isOp ?_; first | (apply TL.ev; (case hd => rfl); (case h => (first | exact ev_simple rfl))) | (refine TL.boxAFr hF (d := 1) (cs := [.bool xs, .slice xA xn xc]) rfl rfl ?_; clear hF; intro w1 b1 hF)) | (refine T.is ?_; first | refine T.seq ?_ | refine T.region ?_ | refine T.block ?_) | (refine G.is ?_; first | refine G.next ?_) | refine TL.nil ?_)
  have hb1 := (hF.lo (b := b1) (by repeat (first | exact InV.head | apply InV.tail))).resolve_right id
  refine T.loop (α := Nat × List Nat) (fun x => [(1, .pointer (some ⟨b1, 0, none⟩)), (2, .int .i64 (x.1 : Int))])
    (fun x W => x.1 ≤ xn ∧ Ow u64v W.heap lo 91 xA xn xc x.2 ∧ Vr W.heap b1 42 [.bool xs, .slice xA xn xc] ∧ Exs (fun k => xA = some ⟨k, 0, none⟩) w W) (fun x => xn - x.1) (0, xl) (by repeat (first | exact Sub.nil _ | refine Sub.cons rfl ?_ | refine Sub.cons' rfl (int_congr (by omega)) ?_)) ⟨Nat.zero_le _, Ow.ext hF.ext hO, hF.var (b := b1) (by repeat (first | exact InV.head | apply InV.tail)), Exs.of hF.ext⟩ ?_
  clear hF hO
  rintro ⟨i, l⟩ w1 ⟨hi, hO, hV, hX⟩
  dsimp only at hi hO hV hX ⊢
  have hF := Fr.refl w1
  rcases Nat.lt_or_ge i xn with hin | hin
  · repeat' (first | (refine TL.isOp ?_; first | (refine TL.isBin ?_; refine TL.cmpG rfl rfl rfl rfl (fun hc => ?_) (fun hc => ?_) <;> (try (first | (exfalso; omega) | exact absurd rfl hc))) | (apply TL.ev; (case hd => rfl); (case h => (first | exact ev_simple rfl | (apply Ev.isBin; first | exact ev_arN rfl rfl rfl (by omega) | exact ev_arU rfl rfl rfl (by first | exact True.intro | omega)) | (apply Ev.isLoad; first | exact ev_loadV rfl (hV.ext hF.ext) rfl) | exact ev_len rfl | exact ev_fieldAddr rfl | exact ev_convU rfl (by omega) | exact ev_indexN rfl rfl hin (Ow.sl (Ow.ext hF.ext hO) (Nat.le_refl _)).some))) | (refine TL.storeOw (k := i) (l := l) rfl rfl (Ow.ext hF.ext hO) hin ?_; intro ws hO2 hX2; have hE1 := hF.ext; clear hF; have hF := Fr.refl ws)) | (refine T.is ?_; first | refine T.seq ?_ | refine T.region ?_ | refine T.block ?_ | refine T.cond_t rfl ?_ | refine T.skip ?_) | (refine G.is ?_; first | refine G.next ?_ | refine G.blockN ?_) | refine TL.nil ?_)
    have hlt := hV.lt
    exact G.again (i + 1, l.set i ((119 + i) % 18446744073709551616)) (by repeat (first | exact Sub.nil _ | refine Sub.cons rfl ?_ | refine Sub.cons' rfl (int_congr (by omega)) ?_)) ⟨hin, hO2, by unfold Vr at hV ⊢; exact (hX2.block b1 hlt (fun e => by have := hA _ e; omega)).trans hV, hX.trans hX2⟩ (by dsimp only; omega)
  · repeat' (first | (refine TL.isOp ?_; first | (refine TL.isBin ?_; refine TL.cmpG rfl rfl rfl rfl (fun hc => ?_) (fun hc => ?_) <;> (try (first | (exfalso; omega) | exact absurd rfl hc))) | (apply TL.ev; (case hd => rfl); (case h => (first | exact ev_simple rfl | (apply Ev.isLoad; first | exact ev_loadV rfl (hV.ext hF.ext) rfl) | exact ev_len rfl | exact ev_fieldAddr rfl)))) | (refine T.is ?_; first | refine T.seq ?_ | refine T.region ?_ | refine T.cond_f rfl ?_ | refine T.exit ?_) | (refine G.is ?_; first | refine G.next ?_ | refine G.blockE ?_ | refine G.thenE ?_) | refine TL.nil ?_)
    exact G.end0 rfl ⟨rfl, hX⟩
/-- All: a closure over the places in order -/
def RetAll (w : World) (Z : ZF) (N : Nat) (e : Ending) (w' : World) : Prop := ∃ (b ba c : Nat) (ls : GL), e = .returned (.func (.func 57) #[] #[.pointer (some ⟨b, 0, none⟩)]) ∧ Vr w'.heap b 33 [.slice (some ⟨ba, 0, none⟩) N c] ∧ Sm 4 plc w'.heap w'.heap.size (some ⟨ba, 0, none⟩) N c ls ∧ (∀ p ∈ ls, LI w'.heap (ival p.2) p.2 ∧ p.2.m.n ≤ 16384) ∧ PlF ls Z N ∧ Ext w w' ∧ w.heap.size ≤ b ∧ w.heap.size ≤ ba
theorem allS (w : World) (g m r c N : Nat) (Z : ZF) (hG : GZ w.heap g m r c Z N) (hN : N ≤ 4096) :
    Cl Try.prog 14 #[.pointer (some ⟨g, 0, none⟩)] w (RetAll w Z N) := by
  have hpl := fun w1 (hE : Ext w w1) => placesS w1 g m r c N Z (hG.ext hE) hN
  refine enter Try.func14 rfl rfl rfl ?_
  have hF := Fr.refl w
  repeat' (first | (refine TL.isOp ?_; first | (refine TL.isCall ?_; refine TL.call rfl rfl ?_; first | (refine (hpl _ hF.ext).mono ?_; rintro _ wy ⟨l1, b1, c1, rfl, hE, hb1, hs1, hv1, hp1⟩; have hb2 := Nat.le_trans hF.exs.size hb1; replace hF := hF.addPl hE hb1 hs1 hv1; clear hE hs1 hv1 hb1; refine Back.mk ?_)) | (apply TL.ev; (case hd => rfl); (case h => (first | exact ev_simple rfl | exact ev_makeFunc rfl))) | (refine TL.storeFr hF rfl rfl rfl rfl (by refine ⟨?_, ?_⟩; (focus (repeat (first | apply SetV.head | apply SetV.tail))); rfl) rfl ?_; clear hF; intro ws hF) | (refine TL.allocFr hF (d := 3) rfl rfl ?_; clear hF; intro w3 b3 hF)) | (refine T.is ?_; first | refine T.seq ?_ | refine T.region ?_ | refine T.ret ?_) | (refine G.is ?_; first | refine G.next ?_) | refine TL.nil ?_)
  have hb3 := (hF.lo (b := b3) (by repeat (first | exact InV.head | apply InV.tail))).resolve_right id
  exact G.ret1 rfl rfl ⟨b3, b1, c1, l1, rfl, hF.var (b := b3) (by repeat (first | exact InV.head | apply InV.tail)), Fr.smG hF (l := l1) (by repeat (first | exact memH | apply memT)), Fr.gv (l := l1) hF (by repeat (first | exact memH | apply memT)), hp1, hF.ext, hb3, hb2⟩
end Go.Proofs.Ytlpheckjogphmaa

set_option linter.unusedSectionVars false
namespace Go.Proofs.Ytlpheckjogphmaa
open Go Go.Eng Go.Proofs Go.NatM Go.RowKit
/-- what yield is told: a number and a place -/
def plA (x : Nat × ((Int × Int) × IV)) : List Value := [.int .i64 (x.1 : Int), .agg (plc x.2).toArray]
/-- what the iterator looks at -/
def AllIt (b ba c N : Nat) (ls : GL) (W : World) : Prop := Vr W.heap b 33 [.slice (some ⟨ba, 0, none⟩) N c] ∧ Sm 4 plc W.heap W.heap.size (some ⟨ba, 0, none⟩) N c ls ∧ (∀ p ∈ ls, LI W.heap (ival p.2) p.2 ∧ p.2.m.n ≤ 16384)
def AllFx (ls : GL) (i : Nat) (x : Nat × ((Int × Int) × IV)) (Wb W : World) : Prop := x.1 = i ∧ (∃ q, ls[i]? = some q ∧ x.2.1 = q.1 ∧ LI W.heap (ival q.2) x.2.2) ∧ x.2.2.m.n ≤ 16384 ∧ Ow u64v W.heap Wb.heap.size 91 x.2.2.m.A x.2.2.m.n x.2.2.m.c x.2.2.m.l
set_option maxRecDepth 100000 in
set_option maxHeartbeats 8000000 in
theorem all_iter (b ba c N : Nat) (ls : GL) (hN : N ≤ 1048576) : Iter Try.prog 57 [.pointer (some ⟨b, 0, none⟩)] plA N (AllIt b ba c N ls) (AllFx ls) := by
  intro l' J Jx W hJ hJx hIt h0 hY
  obtain ⟨hV, hS, hG⟩ := hIt
  refine (enterM Try.func57 rfl rfl rfl (fun _ h => by obtain ⟨⟨v, hv⟩, _⟩ := h; cases hv) ?_).out
  have hF := Fr.refl W
  repeat' (first | (refine TL.isOp ?_; first | (apply TL.ev; (case hd => rfl); (case h => (first | exact ev_simple rfl | (apply Ev.isLoad; first | exact ev_loadV rfl (hV.ext hF.ext) rfl) | exact ev_len rfl)))) | (refine G.is ?_; first | refine G.nextL ?_ | refine G.nextI ?_) | refine TL.nil ?_ | (refine TI.is ?_; first | refine TI.seq ?_ | refine TI.regionI ?_ | refine TI.block ?_) | (refine TLI.is ?_; first | refine TLI.nil ?_ | refine TLI.step rfl ?_))
  refine TI.loop (α := Nat) (fun i => [(0, .func (.yield l') #[] #[]), (1, .pointer (some ⟨b, 0, none⟩)), (5, .slice (some ⟨ba, 0, none⟩) N c), (6, .int .i64 (N : Int)), (7, .int .i64 (i : Int))])
    (fun i W' => i ≤ N ∧ J i W' ∧ AllIt b ba c N ls W') (fun i => N - i) 0 (by repeat (first | exact Sub.nil _ | refine Sub.cons rfl ?_ | refine Sub.cons' rfl (int_congr (by omega)) ?_)) ⟨Nat.zero_le _, h0, hV, hS, hG⟩ ?_
  clear hF hV hS hG h0
  rintro i W1 ⟨hi, hj, hV, hS, hG⟩
  have hF := Fr.refl W1
  rcases Nat.lt_or_ge i N with hin | hin
  · obtain ⟨p, hp⟩ : ∃ p, ls[i]? = some p := ⟨_, List.getElem?_eq_getElem (by rw [hS.len]; exact hin)⟩
    have hgp := hG p (List.mem_of_getElem? hp)
    obtain ⟨⟨p1, p2⟩, v⟩ := p
    have hzl := fun w1 (hE : Ext W1 w1) => zleastO w1 v (hgp.1.g.ext hE) (by have := hgp.2; dsimp only at this; omega)
    have hgn := hgp.2
    obtain ⟨vv, hvv⟩ : ∃ z, ival v = z := ⟨_, rfl⟩
    rw [hvv] at hzl
    obtain ⟨vs, ⟨vA, vn, vc, vl⟩⟩ := v
    dsimp only at hgn hzl
    repeat' (first | (refine TL.isOp ?_; first | (refine TL.isCall ?_; refine TL.call rfl rfl ?_; first | (refine (hzl _ hF.ext).mono ?_; rintro _ wl ⟨u, rfl, hLu, hE, hun, hOu⟩; replace hF := Fr.addLI (Fr.addOw (lo := W1.heap.size) hF hE hOu hF.exs.size) hLu; clear hE hLu hOu; refine Back.mk ?_)) | (refine TL.isBin ?_; refine TL.cmpG rfl rfl rfl rfl (fun hc => ?_) (fun hc => ?_) <;> (try (first | (exfalso; omega) | exact absurd rfl hc))) | (apply TL.ev; (case hd => rfl); (case h => (first | exact ev_simple rfl | (apply Ev.isBin; first | exact ev_arN rfl rfl rfl (by omega)) | (apply Ev.isLoad; first | exact ev_loadAFr hF rfl (by refine ⟨?_, ?_⟩; (focus (repeat (first | exact InV.head | apply InV.tail))); rfl) | exact ev_loadMc [.int .i64 p1, .int .i64 p2, .bool vs, .slice vA vn vc] rfl (hS.ext hF.ext) hp rfl) | exact ev_fieldAddr rfl | exact ev_indexM rfl rfl hin (hS.ext hF.ext).some))) | (refine TL.storeAFr hF rfl rfl rfl rfl (by refine ⟨?_, ?_⟩; (focus (repeat (first | apply SetV.head | apply SetV.tail))); rfl) rfl ?_; clear hF; intro ws hF) | (refine TL.allocFr hF (d := 4) rfl rfl ?_; clear hF; intro w4 b4 hF)) | (refine G.is ?_; first | refine G.nextL ?_ | refine G.nextI ?_ | refine G.blockN ?_ | refine G.blockR ?_ | refine G.thenR ?_) | refine TL.nil ?_ | (refine TI.is ?_; first | refine TI.seq ?_ | refine TI.regionI ?_ | refine TI.block ?_ | refine TI.cond_t rfl ?_ | refine TI.cond_f rfl ?_ | refine TI.ret ?_ | refine TI.skip ?_) | (refine TLI.is ?_; first | refine TLI.nil ?_ | (refine TLI.yield rfl rfl rfl ?_; refine Eng.YieldAt.weak (hY i (i, ((p1, p2), u)) W1 _ hin hj ⟨hV, hS, hG⟩ hF.ext ⟨rfl, ⟨_, hp, rfl, by dsimp only; rw [hvv]; exact Fr.li hF (by repeat (first | exact memH | apply memT))⟩, Nat.le_trans hun hgn, Fr.ow hF (by repeat (first | exact memH | apply memT))⟩) ?_; rintro e W2 (⟨rfl, hj2, hV2, hS2, hG2⟩ | ⟨rfl, hx2⟩) <;> refine ⟨_, rfl, ?_⟩ <;> clear hF <;> have hF := Fr.refl W2) | refine TLI.step rfl ?_))
    · exact G.again (i + 1) (by repeat (first | exact Sub.nil _ | refine Sub.cons rfl ?_ | refine Sub.cons' rfl (int_congr (by omega)) ?_)) ⟨by omega, hj2, hV2, hS2, hG2⟩ (by omega)
    · exact G.retM0 rfl ⟨⟨_, rfl⟩, .inr hx2⟩
  · obtain rfl : i = N := by omega
    repeat' (first | (refine TL.isOp ?_; first | (refine TL.isBin ?_; refine TL.cmpG rfl rfl rfl rfl (fun hc => ?_) (fun hc => ?_) <;> (try (first | (exfalso; omega) | exact absurd rfl hc)))) | (refine G.is ?_; first | refine G.nextL ?_ | refine G.nextI ?_ | refine G.blockE ?_ | refine G.thenE ?_) | refine TL.nil ?_ | (refine TI.is ?_; first | refine TI.seq ?_ | refine TI.regionI ?_ | refine TI.cond_f rfl ?_ | refine TI.exit ?_) | (refine TLI.is ?_; first | refine TLI.nil ?_ | refine TLI.step rfl ?_))
    exact G.endM0 rfl ⟨⟨_, rfl⟩, .inl ⟨hj, hV, hS, hG⟩⟩
end Go.Proofs.Ytlpheckjogphmaa
