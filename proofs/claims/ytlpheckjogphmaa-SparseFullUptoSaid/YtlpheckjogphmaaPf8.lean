/- Layer 5: contracts of zint: of, Least, Add, Mul, MulAdd, Of. Layer 9: contracts of mat: side, Check, check, build. Layer 9: contracts of mat: product, Mul. Layer 9: contracts of mat: place, Add. ref01.Same: have two lists the same words? Layer 9: the law's own functions: alike, alikeRows, alikeMats, sound, none, of, wakes. Layer 9: of, wakes. Layer 9: MatRing's walk. Layer 9: facts on matrices and integers that frames carry. Layer 9: lists of integers in least form: each. Plain laws of naturals as lists of words to the base 65536, the lowest first. No program in sight. Plain arithmetic: trailing zeros, single digits. Words and digits to the base 65536. The document's answers for layer 1: Split, trim, Join, at, Least, order, Cmp. The document's answers for layer 1: at, Least, order, Cmp, Add. The document's answers for layer 5: made, Least, Sign, CmpAbs, Cmp of equal integers. Layer 9: contracts of mat: Turn, Trace; the law's equal. Layer 9: Least, Lines and its iterator. From a law's row to its walk: arguments as the engine has them. What the bound of an Upto statement gives. Layers 1 and 2: contracts of nat.Shl, mulnat.MulLow. Layer 2: contracts of math/bits.Len, mulnat.Pow. Layer 2: contract of mulnat.Product. Arguments as the engine has them, more: slices of slices of words. -/
import Derived.Test.YtlpheckjogphmaaPf3
import Derived.Test.YtlpheckjogphmaaPf5
import Derived.Test.YtlpheckjogphmaaPf7
import Derived.Test.YtlpheckjogphmaaPf6
import Derived.Test.YtlpheckjogphmaaPf4
import Derived.ProofKit
import Derived.OpenShut
import Derived.ChangeOld
import Derived.SizedLaws
import Derived.Test.YtlpheckjogphmaaRows
import Derived.Deep.Slices
set_option linter.unusedVariables false
set_option linter.unusedSimpArgs false
namespace Go.Proofs.Ytlpheckjogphmaa
open Go Go.Eng Go.Proofs Go.NatM Go.RowKit

def sgn (neg : Bool) (n : Nat) : Int := if neg then -(n : Int) else n
def ival (x : IV) : Int := sgn x.neg (val x.m.l)
/-- an integer that reads -/
structure GI (H : Array Obj) (x : IV) : Prop where
  s : Sl u64v H H.size x.m.A x.m.n x.m.c x.m.l
  u : U64 x.m.l
/-- .. in least form: z -/
structure LI (H : Array Obj) (z : Int) (x : IV) : Prop where
  g : GI H x
  d : x.m.l = dig z.natAbs
  e : x.neg = decide (z < 0)
theorem GI.ext {w w' : World} {x : IV} (hE : Ext w w') (h : GI w.heap x) : GI w'.heap x := ⟨(h.s.ext hE).size, h.u⟩
theorem LI.ext {w w' : World} {x : IV} {z : Int} (hE : Ext w w') (h : LI w.heap z x) : LI w'.heap z x := ⟨h.g.ext hE, h.d, h.e⟩
theorem LI.updV {w w' : World} {x : IV} {z : Int} {b : Nat} {t : TypeId} {cs : List Value} (hu : Upd b w w') (hV : Vr w.heap b t cs) (hc : cs.all noU64 = true) (h : LI w.heap z x) : LI w'.heap z x := ⟨⟨(sl_updV hu hV hc h.g.s).size, h.g.u⟩, h.d, h.e⟩
theorem LI.val {H : Array Obj} {z : Int} {x : IV} (h : LI H z x) : ival x = z := by
  unfold ival sgn
  rw [h.d, h.e, val_dig]
  by_cases hz : z < 0
  · simp only [hz, decide_true, if_true]; omega
  · simp only [hz, decide_false, Bool.false_eq_true, if_false]; omega
theorem sgn_abs (neg : Bool) (n : Nat) : (sgn neg n).natAbs = n := by unfold sgn; split <;> omega
theorem dig_pos_len {n : Nat} : 0 < (dig n).length ↔ n ≠ 0 := by
  constructor
  · rintro h rfl; rw [dig_zero] at h; simp at h
  · intro h; rw [dig_pos h]; simp
theorem li_mk {H : Array Obj} {neg : Bool} {N n c : Nat} {A : Option Addr} (hs : Sl u64v H H.size A n c (dig N)) : LI H (sgn neg N) ⟨neg && decide (0 < n), ⟨A, n, c, dig N⟩⟩ := by
  refine ⟨⟨hs, U64_dig _⟩, by rw [sgn_abs], ?_⟩
  have hl := hs.len
  have h0 := dig_pos_len (n := N)
  show (neg && decide (0 < n)) = decide (sgn neg N < 0)
  unfold sgn
  cases neg
  · simp
  · simp only [Bool.true_and, if_true]
    congr 1
    apply propext
    constructor
    · intro h; have := h0.1 (by omega); omega
    · intro h; have := h0.2 (by omega); omega
/-- a new integer, z, of at most K words -/
def RetZ (w : World) (z : Int) (K : Nat) (e : Ending) (w' : World) : Prop := ∃ x : IV, e = .returned (.agg (ivc x).toArray) ∧ LI w'.heap z x ∧ Ext w w' ∧ x.m.n ≤ K
theorem of_ok (w : World) (neg : Bool) (A : Option Addr) (n c N : Nat) (hs : Sl u64v w.heap w.heap.size A n c (dig N)) : Cl Try.prog 62 #[.bool neg, .slice A n c] w (fun e w' => e = .returned (.agg (ivc ⟨neg && decide (0 < n), ⟨A, n, c, dig N⟩⟩).toArray) ∧ LI w'.heap (sgn neg N) ⟨neg && decide (0 < n), ⟨A, n, c, dig N⟩⟩ ∧ Ext w w') := by
  have hsz0 := hs.len
  cases neg
  · refine enter Try.func62 rfl rfl rfl ?_
    repeat' (first | refine TL.ev (ev_simple rfl) rfl ?_ | refine TL.grun rfl rfl rfl ?_ | refine TL.gskip rfl rfl rfl rfl ?_ | refine TL.gskipU rfl rfl rfl ?_ | refine TL.ev (ev_len rfl) rfl ?_ | (refine TL.cmpG rfl rfl rfl rfl (fun hc => ?_) (fun hc => ?_) <;> try (exfalso; omega)) | refine TL.ev (ev_arN rfl rfl rfl (by omega)) rfl ?_ | refine TL.ev (ev_arI rfl rfl rfl (by omega)) rfl ?_ | refine TL.ev (ev_neg rfl (by omega)) rfl ?_ | (refine TL.boxA rfl rfl (fun wb bb ebb hVb hEb hzb => ?_); have hlb := box_lo (w0 := w) (by repeat (first | exact Ext.refl _ | (refine Ext.trans ?_ (by assumption)) | (apply ext_upd; assumption; rotate_left; omega))) ebb) | (refine TL.alloc rfl (fun wa ba eba hVa hEa hza => ?_); have hla := box_lo (w0 := w) (by repeat (first | exact Ext.refl _ | (refine Ext.trans ?_ (by assumption)) | (apply ext_upd; assumption; rotate_left; omega))) eba) | (refine TL.ev (ev_fieldAddr rfl) rfl ?_) | (refine TF.s rfl (fun _ _ => ev_fieldAddr rfl) rfl ?_) | (refine TL.ev (ev_loadVX rfl (by refine ⟨?_, ?_⟩; (focus (repeat (first | assumption | (apply Vr.ext; assumption) | (apply Vr.updX; assumption; rotate_left; omega)))); rfl)) rfl ?_) | (refine TF.s rfl (fun _ hh => ev_loadVX rfl (by refine ⟨Vr.ext hh ?_, ?_⟩; (focus (repeat (first | assumption | (apply Vr.ext; assumption) | (apply Vr.updX; assumption; rotate_left; omega)))); rfl)) rfl ?_) | (refine TL.ev (ev_loadVAX rfl (by refine ⟨?_, ?_⟩; (focus (repeat (first | assumption | (apply Vr.ext; assumption) | (apply Vr.updX; assumption; rotate_left; omega)))); rfl)) rfl ?_) | (refine TF.s rfl (fun _ hh => ev_loadVAX rfl (by refine ⟨Vr.ext hh ?_, ?_⟩; (focus (repeat (first | assumption | (apply Vr.ext; assumption) | (apply Vr.updX; assumption; rotate_left; omega)))); rfl)) rfl ?_) | (refine TL.storeVX rfl rfl rfl rfl (by refine ⟨?_, ?_⟩; (focus (repeat (first | assumption | (apply Vr.ext; assumption) | (apply Vr.updX; assumption; rotate_left; omega)))); rfl) (fun ws hVs hUs hzs => ?_)) | (refine TL.storeX rfl rfl rfl rfl (by refine ⟨?_, ?_⟩; (focus (repeat (first | assumption | (apply Vr.ext; assumption) | (apply Vr.updX; assumption; rotate_left; omega)))); rfl) (fun ws hVs hUs hzs => ?_)) | (refine TL.ev (ev_buildX rfl rfl) rfl ?_) | (refine TF.s rfl (fun _ _ => ev_buildX rfl rfl) rfl ?_) | (refine TL.ev (ev_field rfl rfl) rfl ?_) | (refine TL.ev (ev_makeFunc rfl) rfl ?_) | (refine TF.s rfl (fun _ _ => ev_makeFunc rfl) rfl ?_) | refine TF.nil ?_ | refine TF.e rfl ?_ | refine TF.alt ?_ ?_ | refine G.treeEnd rfl ?_ | refine G.tree rfl (by repeat (first | exact Ext.refl _ | (refine Ext.trans ?_ (by assumption)) | (apply ext_upd; assumption; rotate_left; omega))) ?_ | refine TL.nilX (fun wq hzq hEq => ?_) | refine T.seq ?_ | refine T.region ?_ | refine TL.nil ?_ | refine T.block ?_ | refine T.cond_t rfl ?_ | refine T.cond_f rfl ?_ | refine T.exit ?_ | refine T.ret ?_ | refine T.skip ?_ | refine G.next ?_ | refine G.blockN ?_ | refine G.blockE ?_ | refine G.blockE' rfl ?_ | refine G.blockR ?_ | refine G.thenE ?_ | refine G.thenR ?_ | refine T.regionQ mixed (by kernel_rfl) ?_ | refine TL.nilQ (fun _ => ?_) | refine G.only ?_ | refine G.mixed ?_ | refine TM.nil ?_ | refine TM.e rfl ?_)
    have hE : Ext w ws := (by repeat (first | exact Ext.refl _ | (refine Ext.trans ?_ (by assumption)) | (apply ext_upd; assumption; rotate_left; omega)))
    exact G.retC1 rfl rfl (held_agg hVs rfl) ⟨rfl, li_mk (neg := false) (hs.ext hE).size, hE⟩
  · rcases Nat.eq_zero_or_pos n with h0 | h0
    · refine enter Try.func62 rfl rfl rfl ?_
      repeat' (first | refine TL.ev (ev_simple rfl) rfl ?_ | refine TL.grun rfl rfl rfl ?_ | refine TL.gskip rfl rfl rfl rfl ?_ | refine TL.gskipU rfl rfl rfl ?_ | refine TL.ev (ev_len rfl) rfl ?_ | (refine TL.cmpG rfl rfl rfl rfl (fun hc => ?_) (fun hc => ?_) <;> try (exfalso; omega)) | refine TL.ev (ev_arN rfl rfl rfl (by omega)) rfl ?_ | refine TL.ev (ev_arI rfl rfl rfl (by omega)) rfl ?_ | refine TL.ev (ev_neg rfl (by omega)) rfl ?_ | (refine TL.boxA rfl rfl (fun wb bb ebb hVb hEb hzb => ?_); have hlb := box_lo (w0 := w) (by repeat (first | exact Ext.refl _ | (refine Ext.trans ?_ (by assumption)) | (apply ext_upd; assumption; rotate_left; omega))) ebb) | (refine TL.alloc rfl (fun wa ba eba hVa hEa hza => ?_); have hla := box_lo (w0 := w) (by repeat (first | exact Ext.refl _ | (refine Ext.trans ?_ (by assumption)) | (apply ext_upd; assumption; rotate_left; omega))) eba) | (refine TL.ev (ev_fieldAddr rfl) rfl ?_) | (refine TF.s rfl (fun _ _ => ev_fieldAddr rfl) rfl ?_) | (refine TL.ev (ev_loadVX rfl (by refine ⟨?_, ?_⟩; (focus (repeat (first | assumption | (apply Vr.ext; assumption) | (apply Vr.updX; assumption; rotate_left; omega)))); rfl)) rfl ?_) | (refine TF.s rfl (fun _ hh => ev_loadVX rfl (by refine ⟨Vr.ext hh ?_, ?_⟩; (focus (repeat (first | assumption | (apply Vr.ext; assumption) | (apply Vr.updX; assumption; rotate_left; omega)))); rfl)) rfl ?_) | (refine TL.ev (ev_loadVAX rfl (by refine ⟨?_, ?_⟩; (focus (repeat (first | assumption | (apply Vr.ext; assumption) | (apply Vr.updX; assumption; rotate_left; omega)))); rfl)) rfl ?_) | (refine TF.s rfl (fun _ hh => ev_loadVAX rfl (by refine ⟨Vr.ext hh ?_, ?_⟩; (focus (repeat (first | assumption | (apply Vr.ext; assumption) | (apply Vr.updX; assumption; rotate_left; omega)))); rfl)) rfl ?_) | (refine TL.storeVX rfl rfl rfl rfl (by refine ⟨?_, ?_⟩; (focus (repeat (first | assumption | (apply Vr.ext; assumption) | (apply Vr.updX; assumption; rotate_left; omega)))); rfl) (fun ws hVs hUs hzs => ?_)) | (refine TL.storeX rfl rfl rfl rfl (by refine ⟨?_, ?_⟩; (focus (repeat (first | assumption | (apply Vr.ext; assumption) | (apply Vr.updX; assumption; rotate_left; omega)))); rfl) (fun ws hVs hUs hzs => ?_)) | (refine TL.ev (ev_buildX rfl rfl) rfl ?_) | (refine TF.s rfl (fun _ _ => ev_buildX rfl rfl) rfl ?_) | (refine TL.ev (ev_field rfl rfl) rfl ?_) | (refine TL.ev (ev_makeFunc rfl) rfl ?_) | (refine TF.s rfl (fun _ _ => ev_makeFunc rfl) rfl ?_) | refine TF.nil ?_ | refine TF.e rfl ?_ | refine TF.alt ?_ ?_ | refine G.treeEnd rfl ?_ | refine G.tree rfl (by repeat (first | exact Ext.refl _ | (refine Ext.trans ?_ (by assumption)) | (apply ext_upd; assumption; rotate_left; omega))) ?_ | refine TL.nilX (fun wq hzq hEq => ?_) | refine T.seq ?_ | refine T.region ?_ | refine TL.nil ?_ | refine T.block ?_ | refine T.cond_t rfl ?_ | refine T.cond_f rfl ?_ | refine T.exit ?_ | refine T.ret ?_ | refine T.skip ?_ | refine G.next ?_ | refine G.blockN ?_ | refine G.blockE ?_ | refine G.blockE' rfl ?_ | refine G.blockR ?_ | refine G.thenE ?_ | refine G.thenR ?_ | refine T.regionQ mixed (by kernel_rfl) ?_ | refine TL.nilQ (fun _ => ?_) | refine G.only ?_ | refine G.mixed ?_ | refine TM.nil ?_ | refine TM.e rfl ?_)
      have hE : Ext w ws := (by repeat (first | exact Ext.refl _ | (refine Ext.trans ?_ (by assumption)) | (apply ext_upd; assumption; rotate_left; omega)))
      have e := li_mk (neg := true) (hs.ext hE).size
      have e2 : (true && decide (0 < n)) = false := by simp; omega
      rw [e2] at e ⊢
      exact G.retC1 rfl rfl (held_agg hVs rfl) ⟨rfl, e, hE⟩
    · refine enter Try.func62 rfl rfl rfl ?_
      repeat' (first | refine TL.ev (ev_simple rfl) rfl ?_ | refine TL.grun rfl rfl rfl ?_ | refine TL.gskip rfl rfl rfl rfl ?_ | refine TL.gskipU rfl rfl rfl ?_ | refine TL.ev (ev_len rfl) rfl ?_ | (refine TL.cmpG rfl rfl rfl rfl (fun hc => ?_) (fun hc => ?_) <;> try (exfalso; omega)) | refine TL.ev (ev_arN rfl rfl rfl (by omega)) rfl ?_ | refine TL.ev (ev_arI rfl rfl rfl (by omega)) rfl ?_ | refine TL.ev (ev_neg rfl (by omega)) rfl ?_ | (refine TL.boxA rfl rfl (fun wb bb ebb hVb hEb hzb => ?_); have hlb := box_lo (w0 := w) (by repeat (first | exact Ext.refl _ | (refine Ext.trans ?_ (by assumption)) | (apply ext_upd; assumption; rotate_left; omega))) ebb) | (refine TL.alloc rfl (fun wa ba eba hVa hEa hza => ?_); have hla := box_lo (w0 := w) (by repeat (first | exact Ext.refl _ | (refine Ext.trans ?_ (by assumption)) | (apply ext_upd; assumption; rotate_left; omega))) eba) | (refine TL.ev (ev_fieldAddr rfl) rfl ?_) | (refine TF.s rfl (fun _ _ => ev_fieldAddr rfl) rfl ?_) | (refine TL.ev (ev_loadVX rfl (by refine ⟨?_, ?_⟩; (focus (repeat (first | assumption | (apply Vr.ext; assumption) | (apply Vr.updX; assumption; rotate_left; omega)))); rfl)) rfl ?_) | (refine TF.s rfl (fun _ hh => ev_loadVX rfl (by refine ⟨Vr.ext hh ?_, ?_⟩; (focus (repeat (first | assumption | (apply Vr.ext; assumption) | (apply Vr.updX; assumption; rotate_left; omega)))); rfl)) rfl ?_) | (refine TL.ev (ev_loadVAX rfl (by refine ⟨?_, ?_⟩; (focus (repeat (first | assumption | (apply Vr.ext; assumption) | (apply Vr.updX; assumption; rotate_left; omega)))); rfl)) rfl ?_) | (refine TF.s rfl (fun _ hh => ev_loadVAX rfl (by refine ⟨Vr.ext hh ?_, ?_⟩; (focus (repeat (first | assumption | (apply Vr.ext; assumption) | (apply Vr.updX; assumption; rotate_left; omega)))); rfl)) rfl ?_) | (refine TL.storeVX rfl rfl rfl rfl (by refine ⟨?_, ?_⟩; (focus (repeat (first | assumption | (apply Vr.ext; assumption) | (apply Vr.updX; assumption; rotate_left; omega)))); rfl) (fun ws hVs hUs hzs => ?_)) | (refine TL.storeX rfl rfl rfl rfl (by refine ⟨?_, ?_⟩; (focus (repeat (first | assumption | (apply Vr.ext; assumption) | (apply Vr.updX; assumption; rotate_left; omega)))); rfl) (fun ws hVs hUs hzs => ?_)) | (refine TL.ev (ev_buildX rfl rfl) rfl ?_) | (refine TF.s rfl (fun _ _ => ev_buildX rfl rfl) rfl ?_) | (refine TL.ev (ev_field rfl rfl) rfl ?_) | (refine TL.ev (ev_makeFunc rfl) rfl ?_) | (refine TF.s rfl (fun _ _ => ev_makeFunc rfl) rfl ?_) | refine TF.nil ?_ | refine TF.e rfl ?_ | refine TF.alt ?_ ?_ | refine G.treeEnd rfl ?_ | refine G.tree rfl (by repeat (first | exact Ext.refl _ | (refine Ext.trans ?_ (by assumption)) | (apply ext_upd; assumption; rotate_left; omega))) ?_ | refine TL.nilX (fun wq hzq hEq => ?_) | refine T.seq ?_ | refine T.region ?_ | refine TL.nil ?_ | refine T.block ?_ | refine T.cond_t rfl ?_ | refine T.cond_f rfl ?_ | refine T.exit ?_ | refine T.ret ?_ | refine T.skip ?_ | refine G.next ?_ | refine G.blockN ?_ | refine G.blockE ?_ | refine G.blockE' rfl ?_ | refine G.blockR ?_ | refine G.thenE ?_ | refine G.thenR ?_ | refine T.regionQ mixed (by kernel_rfl) ?_ | refine TL.nilQ (fun _ => ?_) | refine G.only ?_ | refine G.mixed ?_ | refine TM.nil ?_ | refine TM.e rfl ?_)
      have hE : Ext w ws := (by repeat (first | exact Ext.refl _ | (refine Ext.trans ?_ (by assumption)) | (apply ext_upd; assumption; rotate_left; omega)))
      have e := li_mk (neg := true) (hs.ext hE).size
      have e2 : (true && decide (0 < n)) = true := by simp; omega
      rw [e2] at e ⊢
      exact G.retC1 rfl rfl (held_agg hVs rfl) ⟨rfl, e, hE⟩
theorem cmp_eqX (H : Array Obj) (B B' : Nat) (A A' : Option Addr) (n c n' c' : Nat) (l l' : List Nat) (hs : Sl u64v H B A n c l) (hs' : Sl u64v H B' A' n' c' l') (hu : U64 l) (hu' : U64 l') (hn : n ≤ 35184372088832) (hn' : n' ≤ 35184372088832) {q : Int} (hq : cmp3 (val l) (val l') = q) :
    Pure Try.prog 67 #[.slice A n c, .slice A' n' c'] H (.int .i64 q) := by rw [← hq]; exact cmp_ok H B B' A A' n c n' c' l l' hs hs' hu hu' hn hn'
theorem zleast_ok (w : World) (x : IV) (g : GI w.heap x) (hn : x.m.n ≤ 35184372088832) : Cl Try.prog 50 #[.agg (ivc x).toArray] w (RetZ w (ival x) x.m.n) := by
  have hs := g.s
  have hu := g.u
  refine enter Try.func50 rfl rfl rfl ?_
  repeat' (first | refine TL.ev (ev_simple rfl) rfl ?_ | refine TL.grun rfl rfl rfl ?_ | refine TL.gskip rfl rfl rfl rfl ?_ | refine TL.gskipU rfl rfl rfl ?_ | (refine TL.call rfl rfl ?_; first | (refine (least_ok _ _ _ _ _ _ (by first | ((repeat (first | assumption | (apply Sl.ext; assumption) | (apply Sm.ext; assumption) | (apply Sl.upd; assumption) | (apply Sm.upd; assumption) | omega)); done) | ((repeat (first | assumption | (apply Sl.ext; assumption) | (apply Sm.ext; assumption) | (apply sl_updV; assumption; (focus (repeat (first | assumption | (apply Vr.ext; assumption) | (apply Vr.updX; assumption; rotate_left; omega)))); rfl))); done)) hu hn).mono ?_; rintro _ wl ⟨Al, nl, cl, rfl, hOl, hEl, hKl⟩; refine Back.mk ?_; have hSl := hOl.sl (Nat.le_refl _); have hzl := hEl.size) | (refine (of_ok _ _ _ _ _ _ hSl).mono ?_; rintro _ wo ⟨rfl, hLo, hEo⟩; refine Back.mk ?_; have hzo := hEo.size)) | refine TL.ev (ev_len rfl) rfl ?_ | (refine TL.cmpG rfl rfl rfl rfl (fun hc => ?_) (fun hc => ?_) <;> try (exfalso; omega)) | refine TL.ev (ev_arN rfl rfl rfl (by omega)) rfl ?_ | refine TL.ev (ev_arI rfl rfl rfl (by omega)) rfl ?_ | refine TL.ev (ev_neg rfl (by omega)) rfl ?_ | refine T.regionX 1 6 (.s 0 (.s 1 (.s 2 (.s 3 (.e 4 (.e 5 (.e 6 .nil))))))) mixed (by kernel_rfl) (fun wr hzr hEr => ?_) | (refine TL.boxA rfl rfl (fun wb bb ebb hVb hEb hzb => ?_); have hlb := box_lo (w0 := w) (by repeat (first | exact Ext.refl _ | (refine Ext.trans ?_ (by assumption)) | (apply ext_upd; assumption; rotate_left; omega))) ebb) | (refine TL.alloc rfl (fun wa ba eba hVa hEa hza => ?_); have hla := box_lo (w0 := w) (by repeat (first | exact Ext.refl _ | (refine Ext.trans ?_ (by assumption)) | (apply ext_upd; assumption; rotate_left; omega))) eba) | (refine TL.ev (ev_fieldAddr rfl) rfl ?_) | (refine TF.s rfl (fun _ _ => ev_fieldAddr rfl) rfl ?_) | (refine TL.ev (ev_loadVX rfl (by refine ⟨?_, ?_⟩; (focus (repeat (first | assumption | (apply Vr.ext; assumption) | (apply Vr.updX; assumption; rotate_left; omega)))); rfl)) rfl ?_) | (refine TF.s rfl (fun _ hh => ev_loadVX rfl (by refine ⟨Vr.ext hh ?_, ?_⟩; (focus (repeat (first | assumption | (apply Vr.ext; assumption) | (apply Vr.updX; assumption; rotate_left; omega)))); rfl)) rfl ?_) | (refine TL.ev (ev_loadVAX rfl (by refine ⟨?_, ?_⟩; (focus (repeat (first | assumption | (apply Vr.ext; assumption) | (apply Vr.updX; assumption; rotate_left; omega)))); rfl)) rfl ?_) | (refine TF.s rfl (fun _ hh => ev_loadVAX rfl (by refine ⟨Vr.ext hh ?_, ?_⟩; (focus (repeat (first | assumption | (apply Vr.ext; assumption) | (apply Vr.updX; assumption; rotate_left; omega)))); rfl)) rfl ?_) | (refine TL.storeVX rfl rfl rfl rfl (by refine ⟨?_, ?_⟩; (focus (repeat (first | assumption | (apply Vr.ext; assumption) | (apply Vr.updX; assumption; rotate_left; omega)))); rfl) (fun ws hVs hUs hzs => ?_)) | (refine TL.storeX rfl rfl rfl rfl (by refine ⟨?_, ?_⟩; (focus (repeat (first | assumption | (apply Vr.ext; assumption) | (apply Vr.updX; assumption; rotate_left; omega)))); rfl) (fun ws hVs hUs hzs => ?_)) | (refine TL.ev (ev_buildX rfl rfl) rfl ?_) | (refine TF.s rfl (fun _ _ => ev_buildX rfl rfl) rfl ?_) | (refine TL.ev (ev_field rfl rfl) rfl ?_) | (refine TL.ev (ev_makeFunc rfl) rfl ?_) | (refine TF.s rfl (fun _ _ => ev_makeFunc rfl) rfl ?_) | refine TF.nil ?_ | refine TF.e rfl ?_ | refine TF.alt ?_ ?_ | refine G.treeEnd rfl ?_ | refine G.tree rfl (by repeat (first | exact Ext.refl _ | (refine Ext.trans ?_ (by assumption)) | (apply ext_upd; assumption; rotate_left; omega))) ?_ | refine TL.nilX (fun wq hzq hEq => ?_) | refine T.seq ?_ | refine T.region ?_ | refine TL.nil ?_ | refine T.block ?_ | refine T.cond_t rfl ?_ | refine T.cond_f rfl ?_ | refine T.exit ?_ | refine T.ret ?_ | refine T.skip ?_ | refine G.next ?_ | refine G.blockN ?_ | refine G.blockE ?_ | refine G.blockE' rfl ?_ | refine G.blockR ?_ | refine G.thenE ?_ | refine G.thenR ?_ | refine T.regionQ mixed (by kernel_rfl) ?_ | refine TL.nilQ (fun _ => ?_) | refine G.only ?_ | refine G.mixed ?_ | refine TM.nil ?_ | refine TM.e rfl ?_)
  exact G.retC1 rfl rfl (held_agg hVs rfl) ⟨_, rfl, LI.updV hUs (by repeat (first | assumption | (apply Vr.ext; assumption) | (apply Vr.updX; assumption; rotate_left; omega))) rfl hLo, (by repeat (first | exact Ext.refl _ | (refine Ext.trans ?_ (by assumption)) | (apply ext_upd; assumption; rotate_left; omega))), hKl⟩
theorem sgn_mul (a b : Bool) (m n : Nat) : sgn (a != b) (m * n) = sgn a m * sgn b n := by
  unfold sgn
  cases a <;> cases b <;> simp [Int.neg_mul, Int.mul_neg, Int.natCast_mul]
theorem zmul_ok (w : World) (x y : IV) (gx : GI w.heap x) (gy : GI w.heap y) (hx : x.m.n ≤ 8796093022208) (hy : y.m.n ≤ 8796093022208) : Cl Try.prog 84 #[.agg (ivc x).toArray, .agg (ivc y).toArray] w (RetZ w (ival x * ival y) (x.m.n + y.m.n)) := by
  have hs := gx.s
  have hu := gx.u
  have hs' := gy.s
  have hu' := gy.u
  unfold ival
  rw [← sgn_mul]
  refine enter Try.func84 rfl rfl rfl ?_
  repeat' (first | refine TL.ev (ev_simple rfl) rfl ?_ | refine TL.grun rfl rfl rfl ?_ | refine TL.gskip rfl rfl rfl rfl ?_ | refine TL.gskipU rfl rfl rfl ?_ | (refine TL.call rfl rfl ?_; first | (refine (mul_ok _ _ _ _ _ _ _ _ _ _ _ (by first | ((repeat (first | assumption | (apply Sl.ext; assumption) | (apply Sm.ext; assumption) | (apply Sl.upd; assumption) | (apply Sm.upd; assumption) | omega)); done) | ((repeat (first | assumption | (apply Sl.ext; assumption) | (apply Sm.ext; assumption) | (apply sl_updV; assumption; (focus (repeat (first | assumption | (apply Vr.ext; assumption) | (apply Vr.updX; assumption; rotate_left; omega)))); rfl))); done)) (by first | ((repeat (first | assumption | (apply Sl.ext; assumption) | (apply Sm.ext; assumption) | (apply Sl.upd; assumption) | (apply Sm.upd; assumption) | omega)); done) | ((repeat (first | assumption | (apply Sl.ext; assumption) | (apply Sm.ext; assumption) | (apply sl_updV; assumption; (focus (repeat (first | assumption | (apply Vr.ext; assumption) | (apply Vr.updX; assumption; rotate_left; omega)))); rfl))); done)) hu hu' (by omega)).mono ?_; rintro _ wl ⟨Al, nl, cl, rfl, hOl, hEl, hKl⟩; refine Back.mk ?_; have hSl := hOl.sl (Nat.le_refl _); have hzl := hEl.size) | (refine (of_ok _ _ _ _ _ _ hSl).mono ?_; rintro _ wo ⟨rfl, hLo, hEo⟩; refine Back.mk ?_; have hzo := hEo.size)) | refine TL.ev (ev_len rfl) rfl ?_ | (refine TL.cmpG rfl rfl rfl rfl (fun hc => ?_) (fun hc => ?_) <;> try (exfalso; omega)) | refine TL.ev (ev_arN rfl rfl rfl (by omega)) rfl ?_ | refine TL.ev (ev_arI rfl rfl rfl (by omega)) rfl ?_ | refine TL.ev (ev_neg rfl (by omega)) rfl ?_ | refine T.regionX 1 11 (.s 0 (.s 1 (.s 2 (.s 3 (.s 4 (.s 5 (.s 6 (.s 7 (.s 8 (.e 9 (.e 10 (.e 11 .nil)))))))))))) mixed (by kernel_rfl) (fun wr hzr hEr => ?_) | (refine TL.boxA rfl rfl (fun wb bb ebb hVb hEb hzb => ?_); have hlb := box_lo (w0 := w) (by repeat (first | exact Ext.refl _ | (refine Ext.trans ?_ (by assumption)) | (apply ext_upd; assumption; rotate_left; omega))) ebb) | (refine TL.alloc rfl (fun wa ba eba hVa hEa hza => ?_); have hla := box_lo (w0 := w) (by repeat (first | exact Ext.refl _ | (refine Ext.trans ?_ (by assumption)) | (apply ext_upd; assumption; rotate_left; omega))) eba) | (refine TL.ev (ev_fieldAddr rfl) rfl ?_) | (refine TF.s rfl (fun _ _ => ev_fieldAddr rfl) rfl ?_) | (refine TL.ev (ev_loadVX rfl (by refine ⟨?_, ?_⟩; (focus (repeat (first | assumption | (apply Vr.ext; assumption) | (apply Vr.updX; assumption; rotate_left; omega)))); rfl)) rfl ?_) | (refine TF.s rfl (fun _ hh => ev_loadVX rfl (by refine ⟨Vr.ext hh ?_, ?_⟩; (focus (repeat (first | assumption | (apply Vr.ext; assumption) | (apply Vr.updX; assumption; rotate_left; omega)))); rfl)) rfl ?_) | (refine TL.ev (ev_loadVAX rfl (by refine ⟨?_, ?_⟩; (focus (repeat (first | assumption | (apply Vr.ext; assumption) | (apply Vr.updX; assumption; rotate_left; omega)))); rfl)) rfl ?_) | (refine TF.s rfl (fun _ hh => ev_loadVAX rfl (by refine ⟨Vr.ext hh ?_, ?_⟩; (focus (repeat (first | assumption | (apply Vr.ext; assumption) | (apply Vr.updX; assumption; rotate_left; omega)))); rfl)) rfl ?_) | (refine TL.storeVX rfl rfl rfl rfl (by refine ⟨?_, ?_⟩; (focus (repeat (first | assumption | (apply Vr.ext; assumption) | (apply Vr.updX; assumption; rotate_left; omega)))); rfl) (fun ws hVs hUs hzs => ?_)) | (refine TL.storeX rfl rfl rfl rfl (by refine ⟨?_, ?_⟩; (focus (repeat (first | assumption | (apply Vr.ext; assumption) | (apply Vr.updX; assumption; rotate_left; omega)))); rfl) (fun ws hVs hUs hzs => ?_)) | (refine TL.ev (ev_buildX rfl rfl) rfl ?_) | (refine TF.s rfl (fun _ _ => ev_buildX rfl rfl) rfl ?_) | (refine TL.ev (ev_field rfl rfl) rfl ?_) | (refine TL.ev (ev_makeFunc rfl) rfl ?_) | (refine TF.s rfl (fun _ _ => ev_makeFunc rfl) rfl ?_) | (refine TF.s rfl (fun _ _ => ev_neqB (r := x.neg != y.neg) rfl rfl rfl) rfl ?_) | refine TF.nil ?_ | refine TF.e rfl ?_ | refine TF.alt ?_ ?_ | refine G.treeEnd rfl ?_ | refine G.tree rfl (by repeat (first | exact Ext.refl _ | (refine Ext.trans ?_ (by assumption)) | (apply ext_upd; assumption; rotate_left; omega))) ?_ | refine TL.nilX (fun wq hzq hEq => ?_) | refine T.seq ?_ | refine T.region ?_ | refine TL.nil ?_ | refine T.block ?_ | refine T.cond_t rfl ?_ | refine T.cond_f rfl ?_ | refine T.exit ?_ | refine T.ret ?_ | refine T.skip ?_ | refine G.next ?_ | refine G.blockN ?_ | refine G.blockE ?_ | refine G.blockE' rfl ?_ | refine G.blockR ?_ | refine G.thenE ?_ | refine G.thenR ?_ | refine T.regionQ mixed (by kernel_rfl) ?_ | refine TL.nilQ (fun _ => ?_) | refine G.only ?_ | refine G.mixed ?_ | refine TM.nil ?_ | refine TM.e rfl ?_)
  exact G.retC1 rfl rfl (held_agg hVs rfl) ⟨_, rfl, LI.updV hUs (by repeat (first | assumption | (apply Vr.ext; assumption) | (apply Vr.updX; assumption; rotate_left; omega))) rfl hLo, (by repeat (first | exact Ext.refl _ | (refine Ext.trans ?_ (by assumption)) | (apply ext_upd; assumption; rotate_left; omega))), hKl⟩
theorem zadd_same (w : World) (x y : IV) (gx : GI w.heap x) (gy : GI w.heap y) (hx : x.m.n ≤ 17592186044416) (hy : y.m.n ≤ 17592186044416) (hxy : x.neg = y.neg) : Cl Try.prog 33 #[.agg (ivc x).toArray, .agg (ivc y).toArray] w (RetZ w (ival x + ival y) (max x.m.n y.m.n + 1)) := by
  have hs := gx.s
  have hu := gx.u
  have hs' := gy.s
  have hu' := gy.u
  have e : ival x + ival y = sgn x.neg (val x.m.l + val y.m.l) := by unfold ival sgn; rw [← hxy]; split <;> omega
  rw [e]
  refine enter Try.func33 rfl rfl rfl ?_
  repeat' (first | refine TL.ev (ev_simple rfl) rfl ?_ | refine TL.grun rfl rfl rfl ?_ | refine TL.gskip rfl rfl rfl rfl ?_ | refine TL.gskipU rfl rfl rfl ?_ | (refine TL.call rfl rfl ?_; first | (refine (add_ok _ _ _ _ _ _ _ _ _ _ _ (by first | ((repeat (first | assumption | (apply Sl.ext; assumption) | (apply Sm.ext; assumption) | (apply Sl.upd; assumption) | (apply Sm.upd; assumption) | omega)); done) | ((repeat (first | assumption | (apply Sl.ext; assumption) | (apply Sm.ext; assumption) | (apply sl_updV; assumption; (focus (repeat (first | assumption | (apply Vr.ext; assumption) | (apply Vr.updX; assumption; rotate_left; omega)))); rfl))); done)) (by first | ((repeat (first | assumption | (apply Sl.ext; assumption) | (apply Sm.ext; assumption) | (apply Sl.upd; assumption) | (apply Sm.upd; assumption) | omega)); done) | ((repeat (first | assumption | (apply Sl.ext; assumption) | (apply Sm.ext; assumption) | (apply sl_updV; assumption; (focus (repeat (first | assumption | (apply Vr.ext; assumption) | (apply Vr.updX; assumption; rotate_left; omega)))); rfl))); done)) hu hu' (by omega) (by omega)).mono ?_; rintro _ wl ⟨Al, nl, cl, rfl, hOl, hEl, hKl⟩; refine Back.mk ?_; have hSl := hOl.sl (Nat.le_refl _); have hzl := hEl.size) | (refine (of_ok _ _ _ _ _ _ hSl).mono ?_; rintro _ wo ⟨rfl, hLo, hEo⟩; refine Back.mk ?_; have hzo := hEo.size)) | refine TL.ev (ev_len rfl) rfl ?_ | (refine TL.cmpG rfl rfl rfl rfl (fun hc => ?_) (fun hc => ?_) <;> try (exfalso; omega)) | refine TL.ev (ev_arN rfl rfl rfl (by omega)) rfl ?_ | refine TL.ev (ev_arI rfl rfl rfl (by omega)) rfl ?_ | refine TL.ev (ev_neg rfl (by omega)) rfl ?_ | refine T.regionX 2 8 (.s 0 (.s 1 (.s 2 (.s 3 (.s 4 (.s 5 (.e 6 (.e 7 (.e 8 .nil))))))))) mixed (by kernel_rfl) (fun wr hzr hEr => ?_) | (refine TL.boxA rfl rfl (fun wb bb ebb hVb hEb hzb => ?_); have hlb := box_lo (w0 := w) (by repeat (first | exact Ext.refl _ | (refine Ext.trans ?_ (by assumption)) | (apply ext_upd; assumption; rotate_left; omega))) ebb) | (refine TL.alloc rfl (fun wa ba eba hVa hEa hza => ?_); have hla := box_lo (w0 := w) (by repeat (first | exact Ext.refl _ | (refine Ext.trans ?_ (by assumption)) | (apply ext_upd; assumption; rotate_left; omega))) eba) | (refine TL.ev (ev_fieldAddr rfl) rfl ?_) | (refine TF.s rfl (fun _ _ => ev_fieldAddr rfl) rfl ?_) | (refine TL.ev (ev_loadVX rfl (by refine ⟨?_, ?_⟩; (focus (repeat (first | assumption | (apply Vr.ext; assumption) | (apply Vr.updX; assumption; rotate_left; omega)))); rfl)) rfl ?_) | (refine TF.s rfl (fun _ hh => ev_loadVX rfl (by refine ⟨Vr.ext hh ?_, ?_⟩; (focus (repeat (first | assumption | (apply Vr.ext; assumption) | (apply Vr.updX; assumption; rotate_left; omega)))); rfl)) rfl ?_) | (refine TL.ev (ev_loadVAX rfl (by refine ⟨?_, ?_⟩; (focus (repeat (first | assumption | (apply Vr.ext; assumption) | (apply Vr.updX; assumption; rotate_left; omega)))); rfl)) rfl ?_) | (refine TF.s rfl (fun _ hh => ev_loadVAX rfl (by refine ⟨Vr.ext hh ?_, ?_⟩; (focus (repeat (first | assumption | (apply Vr.ext; assumption) | (apply Vr.updX; assumption; rotate_left; omega)))); rfl)) rfl ?_) | (refine TL.storeVX rfl rfl rfl rfl (by refine ⟨?_, ?_⟩; (focus (repeat (first | assumption | (apply Vr.ext; assumption) | (apply Vr.updX; assumption; rotate_left; omega)))); rfl) (fun ws hVs hUs hzs => ?_)) | (refine TL.storeX rfl rfl rfl rfl (by refine ⟨?_, ?_⟩; (focus (repeat (first | assumption | (apply Vr.ext; assumption) | (apply Vr.updX; assumption; rotate_left; omega)))); rfl) (fun ws hVs hUs hzs => ?_)) | (refine TL.ev (ev_buildX rfl rfl) rfl ?_) | (refine TF.s rfl (fun _ _ => ev_buildX rfl rfl) rfl ?_) | (refine TL.ev (ev_field rfl rfl) rfl ?_) | (refine TL.ev (ev_makeFunc rfl) rfl ?_) | (refine TF.s rfl (fun _ _ => ev_makeFunc rfl) rfl ?_) | (refine TL.ev (ev_eqlB (r := true) rfl rfl (by rw [hxy]; exact beq_self_eq_true _)) rfl ?_) | refine TF.nil ?_ | refine TF.e rfl ?_ | refine TF.alt ?_ ?_ | refine G.treeEnd rfl ?_ | refine G.tree rfl (by repeat (first | exact Ext.refl _ | (refine Ext.trans ?_ (by assumption)) | (apply ext_upd; assumption; rotate_left; omega))) ?_ | refine TL.nilX (fun wq hzq hEq => ?_) | refine T.seq ?_ | refine T.region ?_ | refine TL.nil ?_ | refine T.block ?_ | refine T.cond_t rfl ?_ | refine T.cond_f rfl ?_ | refine T.exit ?_ | refine T.ret ?_ | refine T.skip ?_ | refine G.next ?_ | refine G.blockN ?_ | refine G.blockE ?_ | refine G.blockE' rfl ?_ | refine G.blockR ?_ | refine G.thenE ?_ | refine G.thenR ?_ | refine T.regionQ mixed (by kernel_rfl) ?_ | refine TL.nilQ (fun _ => ?_) | refine G.only ?_ | refine G.mixed ?_ | refine TM.nil ?_ | refine TM.e rfl ?_)
  exact G.retC1 rfl rfl (held_agg hVs rfl) ⟨_, rfl, LI.updV hUs (by repeat (first | assumption | (apply Vr.ext; assumption) | (apply Vr.updX; assumption; rotate_left; omega))) rfl hLo, (by repeat (first | exact Ext.refl _ | (refine Ext.trans ?_ (by assumption)) | (apply ext_upd; assumption; rotate_left; omega))), hKl⟩
theorem zadd_lt (w : World) (x y : IV) (gx : GI w.heap x) (gy : GI w.heap y) (hx : x.m.n ≤ 17592186044416) (hy : y.m.n ≤ 17592186044416) (hxy : (x.neg == y.neg) = false) {q : Int} (hq : cmp3 (val x.m.l) (val y.m.l) = q) (hq0 : q < 0) (hle : val x.m.l ≤ val y.m.l) : Cl Try.prog 33 #[.agg (ivc x).toArray, .agg (ivc y).toArray] w (RetZ w (sgn y.neg (val y.m.l - val x.m.l)) (max x.m.n y.m.n + 1)) := by
  have hs := gx.s
  have hu := gx.u
  have hs' := gy.s
  have hu' := gy.u
  refine enter Try.func33 rfl rfl rfl ?_
  repeat' (first | refine TL.ev (ev_simple rfl) rfl ?_ | refine TL.grun rfl rfl rfl ?_ | refine TL.gskip rfl rfl rfl rfl ?_ | refine TL.gskipU rfl rfl rfl ?_ | (refine TL.call rfl rfl ?_; first | (refine (cmp_eqX _ _ _ _ _ _ _ _ _ _ _ (by first | ((repeat (first | assumption | (apply Sl.ext; assumption) | (apply Sm.ext; assumption) | (apply Sl.upd; assumption) | (apply Sm.upd; assumption) | omega)); done) | ((repeat (first | assumption | (apply Sl.ext; assumption) | (apply Sm.ext; assumption) | (apply sl_updV; assumption; (focus (repeat (first | assumption | (apply Vr.ext; assumption) | (apply Vr.updX; assumption; rotate_left; omega)))); rfl))); done)) (by first | ((repeat (first | assumption | (apply Sl.ext; assumption) | (apply Sm.ext; assumption) | (apply Sl.upd; assumption) | (apply Sm.upd; assumption) | omega)); done) | ((repeat (first | assumption | (apply Sl.ext; assumption) | (apply Sm.ext; assumption) | (apply sl_updV; assumption; (focus (repeat (first | assumption | (apply Vr.ext; assumption) | (apply Vr.updX; assumption; rotate_left; omega)))); rfl))); done)) hu hu' (by omega) (by omega) hq).clX.mono ?_; rintro _ wc ⟨rfl, hzc, hEc⟩; refine Back.mk ?_) | (refine (sub_ok _ _ _ _ _ _ _ _ _ _ _ (by first | ((repeat (first | assumption | (apply Sl.ext; assumption) | (apply Sm.ext; assumption) | (apply Sl.upd; assumption) | (apply Sm.upd; assumption) | omega)); done) | ((repeat (first | assumption | (apply Sl.ext; assumption) | (apply Sm.ext; assumption) | (apply sl_updV; assumption; (focus (repeat (first | assumption | (apply Vr.ext; assumption) | (apply Vr.updX; assumption; rotate_left; omega)))); rfl))); done)) (by first | ((repeat (first | assumption | (apply Sl.ext; assumption) | (apply Sm.ext; assumption) | (apply Sl.upd; assumption) | (apply Sm.upd; assumption) | omega)); done) | ((repeat (first | assumption | (apply Sl.ext; assumption) | (apply Sm.ext; assumption) | (apply sl_updV; assumption; (focus (repeat (first | assumption | (apply Vr.ext; assumption) | (apply Vr.updX; assumption; rotate_left; omega)))); rfl))); done)) hu' hu (by omega) (by omega) hle).mono ?_; rintro _ wl ⟨Al, nl, cl, rfl, hOl, hEl, hKl⟩; refine Back.mk ?_; have hSl := hOl.sl (Nat.le_refl _); have hzl := hEl.size) | (refine (of_ok _ _ _ _ _ _ hSl).mono ?_; rintro _ wo ⟨rfl, hLo, hEo⟩; refine Back.mk ?_; have hzo := hEo.size)) | refine TL.ev (ev_len rfl) rfl ?_ | (refine TL.cmpG rfl rfl rfl rfl (fun hc => ?_) (fun hc => ?_) <;> try (exfalso; omega)) | refine TL.ev (ev_arN rfl rfl rfl (by omega)) rfl ?_ | refine TL.ev (ev_arI rfl rfl rfl (by omega)) rfl ?_ | refine TL.ev (ev_neg rfl (by omega)) rfl ?_ | refine T.regionX 2 8 (.s 0 (.s 1 (.s 2 (.s 3 (.s 4 (.s 5 (.e 6 (.e 7 (.e 8 .nil))))))))) mixed (by kernel_rfl) (fun wr hzr hEr => ?_) | (refine TL.boxA rfl rfl (fun wb bb ebb hVb hEb hzb => ?_); have hlb := box_lo (w0 := w) (by repeat (first | exact Ext.refl _ | (refine Ext.trans ?_ (by assumption)) | (apply ext_upd; assumption; rotate_left; omega))) ebb) | (refine TL.alloc rfl (fun wa ba eba hVa hEa hza => ?_); have hla := box_lo (w0 := w) (by repeat (first | exact Ext.refl _ | (refine Ext.trans ?_ (by assumption)) | (apply ext_upd; assumption; rotate_left; omega))) eba) | (refine TL.ev (ev_fieldAddr rfl) rfl ?_) | (refine TF.s rfl (fun _ _ => ev_fieldAddr rfl) rfl ?_) | (refine TL.ev (ev_loadVX rfl (by refine ⟨?_, ?_⟩; (focus (repeat (first | assumption | (apply Vr.ext; assumption) | (apply Vr.updX; assumption; rotate_left; omega)))); rfl)) rfl ?_) | (refine TF.s rfl (fun _ hh => ev_loadVX rfl (by refine ⟨Vr.ext hh ?_, ?_⟩; (focus (repeat (first | assumption | (apply Vr.ext; assumption) | (apply Vr.updX; assumption; rotate_left; omega)))); rfl)) rfl ?_) | (refine TL.ev (ev_loadVAX rfl (by refine ⟨?_, ?_⟩; (focus (repeat (first | assumption | (apply Vr.ext; assumption) | (apply Vr.updX; assumption; rotate_left; omega)))); rfl)) rfl ?_) | (refine TF.s rfl (fun _ hh => ev_loadVAX rfl (by refine ⟨Vr.ext hh ?_, ?_⟩; (focus (repeat (first | assumption | (apply Vr.ext; assumption) | (apply Vr.updX; assumption; rotate_left; omega)))); rfl)) rfl ?_) | (refine TL.storeVX rfl rfl rfl rfl (by refine ⟨?_, ?_⟩; (focus (repeat (first | assumption | (apply Vr.ext; assumption) | (apply Vr.updX; assumption; rotate_left; omega)))); rfl) (fun ws hVs hUs hzs => ?_)) | (refine TL.storeX rfl rfl rfl rfl (by refine ⟨?_, ?_⟩; (focus (repeat (first | assumption | (apply Vr.ext; assumption) | (apply Vr.updX; assumption; rotate_left; omega)))); rfl) (fun ws hVs hUs hzs => ?_)) | (refine TL.ev (ev_buildX rfl rfl) rfl ?_) | (refine TF.s rfl (fun _ _ => ev_buildX rfl rfl) rfl ?_) | (refine TL.ev (ev_field rfl rfl) rfl ?_) | (refine TL.ev (ev_makeFunc rfl) rfl ?_) | (refine TF.s rfl (fun _ _ => ev_makeFunc rfl) rfl ?_) | (refine TL.ev (ev_eqlB (r := false) rfl rfl hxy) rfl ?_) | refine TF.nil ?_ | refine TF.e rfl ?_ | refine TF.alt ?_ ?_ | refine G.treeEnd rfl ?_ | refine G.tree rfl (by repeat (first | exact Ext.refl _ | (refine Ext.trans ?_ (by assumption)) | (apply ext_upd; assumption; rotate_left; omega))) ?_ | refine TL.nilX (fun wq hzq hEq => ?_) | refine T.seq ?_ | refine T.region ?_ | refine TL.nil ?_ | refine T.block ?_ | refine T.cond_t rfl ?_ | refine T.cond_f rfl ?_ | refine T.exit ?_ | refine T.ret ?_ | refine T.skip ?_ | refine G.next ?_ | refine G.blockN ?_ | refine G.blockE ?_ | refine G.blockE' rfl ?_ | refine G.blockR ?_ | refine G.thenE ?_ | refine G.thenR ?_ | refine T.regionQ mixed (by kernel_rfl) ?_ | refine TL.nilQ (fun _ => ?_) | refine G.only ?_ | refine G.mixed ?_ | refine TM.nil ?_ | refine TM.e rfl ?_)
  exact G.retC1 rfl rfl (held_agg hVs rfl) ⟨_, rfl, LI.updV hUs (by repeat (first | assumption | (apply Vr.ext; assumption) | (apply Vr.updX; assumption; rotate_left; omega))) rfl hLo, (by repeat (first | exact Ext.refl _ | (refine Ext.trans ?_ (by assumption)) | (apply ext_upd; assumption; rotate_left; omega))), by exact Nat.le_trans hKl (by omega)⟩
theorem zadd_ge (w : World) (x y : IV) (gx : GI w.heap x) (gy : GI w.heap y) (hx : x.m.n ≤ 17592186044416) (hy : y.m.n ≤ 17592186044416) (hxy : (x.neg == y.neg) = false) {q : Int} (hq : cmp3 (val x.m.l) (val y.m.l) = q) (hq0 : ¬ q < 0) (hle : val y.m.l ≤ val x.m.l) : Cl Try.prog 33 #[.agg (ivc x).toArray, .agg (ivc y).toArray] w (RetZ w (sgn x.neg (val x.m.l - val y.m.l)) (max x.m.n y.m.n + 1)) := by
  have hs := gx.s
  have hu := gx.u
  have hs' := gy.s
  have hu' := gy.u
  refine enter Try.func33 rfl rfl rfl ?_
  repeat' (first | refine TL.ev (ev_simple rfl) rfl ?_ | refine TL.grun rfl rfl rfl ?_ | refine TL.gskip rfl rfl rfl rfl ?_ | refine TL.gskipU rfl rfl rfl ?_ | (refine TL.call rfl rfl ?_; first | (refine (cmp_eqX _ _ _ _ _ _ _ _ _ _ _ (by first | ((repeat (first | assumption | (apply Sl.ext; assumption) | (apply Sm.ext; assumption) | (apply Sl.upd; assumption) | (apply Sm.upd; assumption) | omega)); done) | ((repeat (first | assumption | (apply Sl.ext; assumption) | (apply Sm.ext; assumption) | (apply sl_updV; assumption; (focus (repeat (first | assumption | (apply Vr.ext; assumption) | (apply Vr.updX; assumption; rotate_left; omega)))); rfl))); done)) (by first | ((repeat (first | assumption | (apply Sl.ext; assumption) | (apply Sm.ext; assumption) | (apply Sl.upd; assumption) | (apply Sm.upd; assumption) | omega)); done) | ((repeat (first | assumption | (apply Sl.ext; assumption) | (apply Sm.ext; assumption) | (apply sl_updV; assumption; (focus (repeat (first | assumption | (apply Vr.ext; assumption) | (apply Vr.updX; assumption; rotate_left; omega)))); rfl))); done)) hu hu' (by omega) (by omega) hq).clX.mono ?_; rintro _ wc ⟨rfl, hzc, hEc⟩; refine Back.mk ?_) | (refine (sub_ok _ _ _ _ _ _ _ _ _ _ _ (by first | ((repeat (first | assumption | (apply Sl.ext; assumption) | (apply Sm.ext; assumption) | (apply Sl.upd; assumption) | (apply Sm.upd; assumption) | omega)); done) | ((repeat (first | assumption | (apply Sl.ext; assumption) | (apply Sm.ext; assumption) | (apply sl_updV; assumption; (focus (repeat (first | assumption | (apply Vr.ext; assumption) | (apply Vr.updX; assumption; rotate_left; omega)))); rfl))); done)) (by first | ((repeat (first | assumption | (apply Sl.ext; assumption) | (apply Sm.ext; assumption) | (apply Sl.upd; assumption) | (apply Sm.upd; assumption) | omega)); done) | ((repeat (first | assumption | (apply Sl.ext; assumption) | (apply Sm.ext; assumption) | (apply sl_updV; assumption; (focus (repeat (first | assumption | (apply Vr.ext; assumption) | (apply Vr.updX; assumption; rotate_left; omega)))); rfl))); done)) hu hu' (by omega) (by omega) hle).mono ?_; rintro _ wl ⟨Al, nl, cl, rfl, hOl, hEl, hKl⟩; refine Back.mk ?_; have hSl := hOl.sl (Nat.le_refl _); have hzl := hEl.size) | (refine (of_ok _ _ _ _ _ _ hSl).mono ?_; rintro _ wo ⟨rfl, hLo, hEo⟩; refine Back.mk ?_; have hzo := hEo.size)) | refine TL.ev (ev_len rfl) rfl ?_ | (refine TL.cmpG rfl rfl rfl rfl (fun hc => ?_) (fun hc => ?_) <;> try (exfalso; omega)) | refine TL.ev (ev_arN rfl rfl rfl (by omega)) rfl ?_ | refine TL.ev (ev_arI rfl rfl rfl (by omega)) rfl ?_ | refine TL.ev (ev_neg rfl (by omega)) rfl ?_ | refine T.regionX 2 8 (.s 0 (.s 1 (.s 2 (.s 3 (.s 4 (.s 5 (.e 6 (.e 7 (.e 8 .nil))))))))) mixed (by kernel_rfl) (fun wr hzr hEr => ?_) | (refine TL.boxA rfl rfl (fun wb bb ebb hVb hEb hzb => ?_); have hlb := box_lo (w0 := w) (by repeat (first | exact Ext.refl _ | (refine Ext.trans ?_ (by assumption)) | (apply ext_upd; assumption; rotate_left; omega))) ebb) | (refine TL.alloc rfl (fun wa ba eba hVa hEa hza => ?_); have hla := box_lo (w0 := w) (by repeat (first | exact Ext.refl _ | (refine Ext.trans ?_ (by assumption)) | (apply ext_upd; assumption; rotate_left; omega))) eba) | (refine TL.ev (ev_fieldAddr rfl) rfl ?_) | (refine TF.s rfl (fun _ _ => ev_fieldAddr rfl) rfl ?_) | (refine TL.ev (ev_loadVX rfl (by refine ⟨?_, ?_⟩; (focus (repeat (first | assumption | (apply Vr.ext; assumption) | (apply Vr.updX; assumption; rotate_left; omega)))); rfl)) rfl ?_) | (refine TF.s rfl (fun _ hh => ev_loadVX rfl (by refine ⟨Vr.ext hh ?_, ?_⟩; (focus (repeat (first | assumption | (apply Vr.ext; assumption) | (apply Vr.updX; assumption; rotate_left; omega)))); rfl)) rfl ?_) | (refine TL.ev (ev_loadVAX rfl (by refine ⟨?_, ?_⟩; (focus (repeat (first | assumption | (apply Vr.ext; assumption) | (apply Vr.updX; assumption; rotate_left; omega)))); rfl)) rfl ?_) | (refine TF.s rfl (fun _ hh => ev_loadVAX rfl (by refine ⟨Vr.ext hh ?_, ?_⟩; (focus (repeat (first | assumption | (apply Vr.ext; assumption) | (apply Vr.updX; assumption; rotate_left; omega)))); rfl)) rfl ?_) | (refine TL.storeVX rfl rfl rfl rfl (by refine ⟨?_, ?_⟩; (focus (repeat (first | assumption | (apply Vr.ext; assumption) | (apply Vr.updX; assumption; rotate_left; omega)))); rfl) (fun ws hVs hUs hzs => ?_)) | (refine TL.storeX rfl rfl rfl rfl (by refine ⟨?_, ?_⟩; (focus (repeat (first | assumption | (apply Vr.ext; assumption) | (apply Vr.updX; assumption; rotate_left; omega)))); rfl) (fun ws hVs hUs hzs => ?_)) | (refine TL.ev (ev_buildX rfl rfl) rfl ?_) | (refine TF.s rfl (fun _ _ => ev_buildX rfl rfl) rfl ?_) | (refine TL.ev (ev_field rfl rfl) rfl ?_) | (refine TL.ev (ev_makeFunc rfl) rfl ?_) | (refine TF.s rfl (fun _ _ => ev_makeFunc rfl) rfl ?_) | (refine TL.ev (ev_eqlB (r := false) rfl rfl hxy) rfl ?_) | refine TF.nil ?_ | refine TF.e rfl ?_ | refine TF.alt ?_ ?_ | refine G.treeEnd rfl ?_ | refine G.tree rfl (by repeat (first | exact Ext.refl _ | (refine Ext.trans ?_ (by assumption)) | (apply ext_upd; assumption; rotate_left; omega))) ?_ | refine TL.nilX (fun wq hzq hEq => ?_) | refine T.seq ?_ | refine T.region ?_ | refine TL.nil ?_ | refine T.block ?_ | refine T.cond_t rfl ?_ | refine T.cond_f rfl ?_ | refine T.exit ?_ | refine T.ret ?_ | refine T.skip ?_ | refine G.next ?_ | refine G.blockN ?_ | refine G.blockE ?_ | refine G.blockE' rfl ?_ | refine G.blockR ?_ | refine G.thenE ?_ | refine G.thenR ?_ | refine T.regionQ mixed (by kernel_rfl) ?_ | refine TL.nilQ (fun _ => ?_) | refine G.only ?_ | refine G.mixed ?_ | refine TM.nil ?_ | refine TM.e rfl ?_)
  exact G.retC1 rfl rfl (held_agg hVs rfl) ⟨_, rfl, LI.updV hUs (by repeat (first | assumption | (apply Vr.ext; assumption) | (apply Vr.updX; assumption; rotate_left; omega))) rfl hLo, (by repeat (first | exact Ext.refl _ | (refine Ext.trans ?_ (by assumption)) | (apply ext_upd; assumption; rotate_left; omega))), by exact Nat.le_trans hKl (by omega)⟩
theorem zadd_ok (w : World) (x y : IV) (gx : GI w.heap x) (gy : GI w.heap y) (hx : x.m.n ≤ 17592186044416) (hy : y.m.n ≤ 17592186044416) : Cl Try.prog 33 #[.agg (ivc x).toArray, .agg (ivc y).toArray] w (RetZ w (ival x + ival y) (max x.m.n y.m.n + 1)) := by
  by_cases hxy : x.neg = y.neg
  · exact zadd_same w x y gx gy hx hy hxy
  · have hb : (x.neg == y.neg) = false := by simpa using hxy
    rcases Nat.lt_or_ge (val x.m.l) (val y.m.l) with h | h
    · have e : ival x + ival y = sgn y.neg (val y.m.l - val x.m.l) := by unfold ival sgn; cases hx1 : x.neg <;> cases hy1 : y.neg <;> simp_all <;> omega
      rw [e]
      exact zadd_lt w x y gx gy hx hy hb rfl (by rw [cmp3, if_pos h]; omega) (by omega)
    · have e : ival x + ival y = sgn x.neg (val x.m.l - val y.m.l) := by unfold ival sgn; cases hx1 : x.neg <;> cases hy1 : y.neg <;> simp_all <;> omega
      rw [e]
      exact zadd_ge w x y gx gy hx hy hb rfl (by rw [cmp3, if_neg (by omega)]; split <;> omega) h
theorem zmulAdd_ok (w : World) (x y z : IV) (gx : GI w.heap x) (gy : GI w.heap y) (gz : GI w.heap z) (hx : x.m.n ≤ 8796093022208) (hy : y.m.n ≤ 8796093022208) (hz : z.m.n ≤ 17592186044416) : Cl Try.prog 61 #[.agg (ivc x).toArray, .agg (ivc y).toArray, .agg (ivc z).toArray] w (RetZ w (ival x * ival y + ival z) (max (x.m.n + y.m.n) z.m.n + 1)) := by
  refine enter Try.func61 rfl rfl rfl ?_
  repeat' (first | refine TL.ev (ev_simple rfl) rfl ?_ | refine TL.grun rfl rfl rfl ?_ | refine TL.gskip rfl rfl rfl rfl ?_ | refine TL.gskipU rfl rfl rfl ?_ | (refine TL.call rfl rfl ?_; first | (refine (zmul_ok _ x y (by repeat (first | assumption | (apply GI.ext; assumption))) (by repeat (first | assumption | (apply GI.ext; assumption))) hx hy).mono ?_; rintro _ wm ⟨p, rfl, hLp, hEm, hKp⟩; refine Back.mk ?_; have hzm := hEm.size) | (refine (zadd_ok _ p z hLp.g (by repeat (first | assumption | (apply GI.ext; assumption))) (by omega) hz).mono ?_; rintro _ wo ⟨s, rfl, hLs, hEo, hKs⟩; refine Back.mk ?_; have hzo := hEo.size; rw [hLp.val] at hLs)) | refine TL.ev (ev_len rfl) rfl ?_ | (refine TL.cmpG rfl rfl rfl rfl (fun hc => ?_) (fun hc => ?_) <;> try (exfalso; omega)) | refine TL.ev (ev_arN rfl rfl rfl (by omega)) rfl ?_ | refine TL.ev (ev_arI rfl rfl rfl (by omega)) rfl ?_ | refine TL.ev (ev_neg rfl (by omega)) rfl ?_ | refine T.regionX 1 5 (.s 0 (.s 1 (.s 3 (.e 2 (.e 4 (.e 5 .nil)))))) mixed (by kernel_rfl) (fun wr hzr hEr => ?_) | (refine TL.boxA rfl rfl (fun wb bb ebb hVb hEb hzb => ?_); have hlb := box_lo (w0 := w) (by repeat (first | exact Ext.refl _ | (refine Ext.trans ?_ (by assumption)) | (apply ext_upd; assumption; rotate_left; omega))) ebb) | (refine TL.alloc rfl (fun wa ba eba hVa hEa hza => ?_); have hla := box_lo (w0 := w) (by repeat (first | exact Ext.refl _ | (refine Ext.trans ?_ (by assumption)) | (apply ext_upd; assumption; rotate_left; omega))) eba) | (refine TL.ev (ev_fieldAddr rfl) rfl ?_) | (refine TF.s rfl (fun _ _ => ev_fieldAddr rfl) rfl ?_) | (refine TL.ev (ev_loadVX rfl (by refine ⟨?_, ?_⟩; (focus (repeat (first | assumption | (apply Vr.ext; assumption) | (apply Vr.updX; assumption; rotate_left; omega)))); rfl)) rfl ?_) | (refine TF.s rfl (fun _ hh => ev_loadVX rfl (by refine ⟨Vr.ext hh ?_, ?_⟩; (focus (repeat (first | assumption | (apply Vr.ext; assumption) | (apply Vr.updX; assumption; rotate_left; omega)))); rfl)) rfl ?_) | (refine TL.ev (ev_loadVAX rfl (by refine ⟨?_, ?_⟩; (focus (repeat (first | assumption | (apply Vr.ext; assumption) | (apply Vr.updX; assumption; rotate_left; omega)))); rfl)) rfl ?_) | (refine TF.s rfl (fun _ hh => ev_loadVAX rfl (by refine ⟨Vr.ext hh ?_, ?_⟩; (focus (repeat (first | assumption | (apply Vr.ext; assumption) | (apply Vr.updX; assumption; rotate_left; omega)))); rfl)) rfl ?_) | (refine TL.storeVX rfl rfl rfl rfl (by refine ⟨?_, ?_⟩; (focus (repeat (first | assumption | (apply Vr.ext; assumption) | (apply Vr.updX; assumption; rotate_left; omega)))); rfl) (fun ws hVs hUs hzs => ?_)) | (refine TL.storeX rfl rfl rfl rfl (by refine ⟨?_, ?_⟩; (focus (repeat (first | assumption | (apply Vr.ext; assumption) | (apply Vr.updX; assumption; rotate_left; omega)))); rfl) (fun ws hVs hUs hzs => ?_)) | (refine TL.ev (ev_buildX rfl rfl) rfl ?_) | (refine TF.s rfl (fun _ _ => ev_buildX rfl rfl) rfl ?_) | (refine TL.ev (ev_field rfl rfl) rfl ?_) | (refine TL.ev (ev_makeFunc rfl) rfl ?_) | (refine TF.s rfl (fun _ _ => ev_makeFunc rfl) rfl ?_) | refine TF.nil ?_ | refine TF.e rfl ?_ | refine TF.alt ?_ ?_ | refine G.treeEnd rfl ?_ | refine G.tree rfl (by repeat (first | exact Ext.refl _ | (refine Ext.trans ?_ (by assumption)) | (apply ext_upd; assumption; rotate_left; omega))) ?_ | refine TL.nilX (fun wq hzq hEq => ?_) | refine T.seq ?_ | refine T.region ?_ | refine TL.nil ?_ | refine T.block ?_ | refine T.cond_t rfl ?_ | refine T.cond_f rfl ?_ | refine T.exit ?_ | refine T.ret ?_ | refine T.skip ?_ | refine G.next ?_ | refine G.blockN ?_ | refine G.blockE ?_ | refine G.blockE' rfl ?_ | refine G.blockR ?_ | refine G.thenE ?_ | refine G.thenR ?_ | refine T.regionQ mixed (by kernel_rfl) ?_ | refine TL.nilQ (fun _ => ?_) | refine G.only ?_ | refine G.mixed ?_ | refine TM.nil ?_ | refine TM.e rfl ?_)
  exact G.retC1 rfl rfl (held_agg hVs rfl) ⟨s, rfl, LI.updV hUs (by repeat (first | assumption | (apply Vr.ext; assumption) | (apply Vr.updX; assumption; rotate_left; omega))) rfl hLs, (by repeat (first | exact Ext.refl _ | (refine Ext.trans ?_ (by assumption)) | (apply ext_upd; assumption; rotate_left; omega))), by omega⟩
end Go.Proofs.Ytlpheckjogphmaa

namespace Go.Proofs.Ytlpheckjogphmaa
open Go Go.Eng Go.Proofs Go.NatM Go.RowKit

/-- the shape of a matrix -/
structure Sound (x : MV) (r c : Nat) : Prop where
  er : x.r = r
  ec : x.c = c
  r64 : r ≤ 64
  c64 : c ≤ 64
  n : x.n = r * c
/-- a matrix that reads; entries of at most K words -/
structure GM (H : Array Obj) (x : MV) (r c : Nat) (K : Nat) : Prop where
  sh : Sound x r c
  s : Sm 2 ivc H H.size x.A x.n x.k x.l
  g : ∀ y ∈ x.l, GI H y ∧ y.m.n ≤ K
/-- a matrix whose entries are F, in least form -/
structure LM (H : Array Obj) (x : MV) (r c : Nat) (F : Nat → Nat → Int) (K : Nat) : Prop where
  sh : Sound x r c
  s : Sm 2 ivc H H.size x.A x.n x.k x.l
  g : ∀ i j, i < r → j < c → LI H (F i j) (x.l.getD (i * c + j) default) ∧ (x.l.getD (i * c + j) default).m.n ≤ K
theorem GM.ext {w w' : World} {x : MV} {r c K : Nat} (hE : Ext w w') (h : GM w.heap x r c K) : GM w'.heap x r c K := ⟨h.sh, (h.s.ext hE).size, fun y hy => ⟨(h.g y hy).1.ext hE, (h.g y hy).2⟩⟩
theorem LM.ext {w w' : World} {x : MV} {r c K : Nat} {F : Nat → Nat → Int} (hE : Ext w w') (h : LM w.heap x r c F K) : LM w'.heap x r c F K := ⟨h.sh, (h.s.ext hE).size, fun i j hi hj => ⟨(h.g i j hi hj).1.ext hE, (h.g i j hi hj).2⟩⟩
/-- the list lies in a block that is not older than w -/
def MF (w : World) (x : MV) : Prop := x.n = 0 ∨ ∃ b, x.A = some ⟨b, 0, none⟩ ∧ w.heap.size ≤ b
theorem MF.mono {w w1 : World} {x : MV} (h : MF w1 x) (hs : w.heap.size ≤ w1.heap.size) : MF w x := h.imp id fun ⟨b, e, hb⟩ => ⟨b, e, Nat.le_trans hs hb⟩
end Go.Proofs.Ytlpheckjogphmaa

namespace Go.Proofs.Ytlpheckjogphmaa
open Go Go.Eng Go.Proofs Go.NatM Go.RowKit

def noBool : Value → Bool
  | .bool _ => false
  | _ => true
theorem sm_updV {w w' : World} {B n k b : Nat} {A : Option Addr} {l : List IV} {t : TypeId} {cs : List Value} (hu : Upd b w w') (hV : Vr w.heap b t cs) (hc : cs.all noBool = true) (h : Sm 2 ivc w.heap B A n k l) : Sm 2 ivc w'.heap B A n k l := by
  refine ⟨h.len, h.cap, h.pos, h.wid, ?_⟩
  rcases h.mem with h0 | ⟨b', o, e, hlt, hm⟩
  · exact .inl h0
  · rcases Nat.eq_zero_or_pos n with h0 | h0
    · exact .inl h0
    · have hl : 0 < l.length := by have := h.len; omega
      have hne : b' ≠ b := by
        intro hb
        subst hb
        have h1 := hm 0 l[0] (List.getElem?_eq_getElem hl) 0 (.bool l[0].neg) rfl
        rw [hV.cell] at h1
        have h2 := List.all_eq_true.1 hc _ (List.mem_of_getElem? h1)
        cases h2
      refine .inr ⟨b', o, e, hlt, fun j x hx q v hv => ?_⟩
      have := hm j x hx q v hv
      unfold hcell at this ⊢
      rw [hu.block b' hne]
      exact this
theorem LM.updV {w w' : World} {x : MV} {r c K b : Nat} {F : Nat → Nat → Int} {t : TypeId} {cs : List Value} (hu : Upd b w w') (hV : Vr w.heap b t cs) (h1 : cs.all noU64 = true) (h2 : cs.all noBool = true) (h : LM w.heap x r c F K) : LM w'.heap x r c F K :=
  ⟨h.sh, (sm_updV hu hV h2 h.s).size, fun i j hi hj => ⟨LI.updV hu hV h1 (h.g i j hi hj).1, (h.g i j hi hj).2⟩⟩
theorem LI.zero (H : Array Obj) : LI H 0 ⟨false, ⟨none, 0, 0, []⟩⟩ := ⟨⟨Sl.nil _ _ _ _ _, U64.nil⟩, by simp [dig_zero], rfl⟩
theorem of1_ok (w : World) : Cl Try.prog 28 #[.int .i64 1] w (RetZ w 1 1) := by
  refine enter Try.func28 rfl rfl rfl ?_
  repeat' (first | refine TL.ev (ev_simple rfl) rfl ?_ | refine TL.grun rfl rfl rfl ?_ | refine TL.gskip rfl rfl rfl rfl ?_ | refine TL.gskipU rfl rfl rfl ?_ | (refine TL.call rfl rfl ?_; first | (refine (least_ok _ _ _ _ _ _ hSn (U64.one (by omega)) (by omega)).mono ?_; rintro _ wl ⟨Al, nl, cl, rfl, hOl, hEl, hKl⟩; refine Back.mk ?_; have hSl := hOl.sl (Nat.le_refl _); have hzl := hEl.size) | (refine (of_ok _ _ _ _ _ _ hSl).mono ?_; rintro _ wo ⟨rfl, hLo, hEo⟩; refine Back.mk ?_; have hzo := hEo.size)) | refine TL.ev (ev_len rfl) rfl ?_ | (refine TL.cmpG rfl rfl rfl rfl (fun hc => ?_) (fun hc => ?_) <;> try (exfalso; omega)) | refine TL.ev (ev_arN rfl rfl rfl (by omega)) rfl ?_ | refine TL.ev (ev_arI rfl rfl rfl (by omega)) rfl ?_ | refine TL.ev (ev_neg rfl (by omega)) rfl ?_ | refine TL.ev (ev_shrU rfl rfl (by first | omega | exact U64.getD (by assumption) _)) rfl ?_ | refine TL.ev (ev_shlU rfl rfl) rfl ?_ | refine TL.ev (ev_andU rfl rfl (by first | omega | exact U64.getD (by assumption) _) (by first | omega | exact U64.getD (by assumption) _)) rfl ?_ | refine TL.ev (ev_orU rfl rfl (by first | omega | exact U64.getD (by assumption) _) (by first | omega | exact U64.getD (by assumption) _)) rfl ?_ | refine TL.ev (ev_xorU rfl rfl (by first | omega | exact U64.getD (by assumption) _) (by first | omega | exact U64.getD (by assumption) _)) rfl ?_ | refine TL.ev (ev_convU rfl (by omega)) rfl ?_ | refine TL.ev (ev_convI rfl (by omega)) rfl ?_ | refine TL.ev (ev_arU rfl rfl rfl (by first | exact True.intro | omega)) rfl ?_ | (refine TL.build1U rfl rfl (fun wn bn ebn hBn hEn hzn => ?_); have hSn := hBn.slN (n := 1) (c := 1) rfl (Nat.le_refl _) hBn.lt) | (refine TL.boxA rfl rfl (fun wb bb ebb hVb hEb hzb => ?_); have hlb := box_lo (w0 := w) (by repeat (first | exact Ext.refl _ | (refine Ext.trans ?_ (by assumption)) | (apply ext_upd; assumption; rotate_left; omega))) ebb) | (refine TL.alloc rfl (fun wa ba eba hVa hEa hza => ?_); have hla := box_lo (w0 := w) (by repeat (first | exact Ext.refl _ | (refine Ext.trans ?_ (by assumption)) | (apply ext_upd; assumption; rotate_left; omega))) eba) | (refine TL.ev (ev_fieldAddr rfl) rfl ?_) | (refine TF.s rfl (fun _ _ => ev_fieldAddr rfl) rfl ?_) | (refine TL.ev (ev_loadVX rfl (by refine ⟨?_, ?_⟩; (focus (repeat (first | assumption | (apply Vr.ext; assumption) | (apply Vr.updX; assumption; rotate_left; omega)))); rfl)) rfl ?_) | (refine TF.s rfl (fun _ hh => ev_loadVX rfl (by refine ⟨Vr.ext hh ?_, ?_⟩; (focus (repeat (first | assumption | (apply Vr.ext; assumption) | (apply Vr.updX; assumption; rotate_left; omega)))); rfl)) rfl ?_) | (refine TL.ev (ev_loadVAX rfl (by refine ⟨?_, ?_⟩; (focus (repeat (first | assumption | (apply Vr.ext; assumption) | (apply Vr.updX; assumption; rotate_left; omega)))); rfl)) rfl ?_) | (refine TF.s rfl (fun _ hh => ev_loadVAX rfl (by refine ⟨Vr.ext hh ?_, ?_⟩; (focus (repeat (first | assumption | (apply Vr.ext; assumption) | (apply Vr.updX; assumption; rotate_left; omega)))); rfl)) rfl ?_) | (refine TL.storeVX rfl rfl rfl rfl (by refine ⟨?_, ?_⟩; (focus (repeat (first | assumption | (apply Vr.ext; assumption) | (apply Vr.updX; assumption; rotate_left; omega)))); rfl) (fun ws hVs hUs hzs => ?_)) | (refine TL.storeX rfl rfl rfl rfl (by refine ⟨?_, ?_⟩; (focus (repeat (first | assumption | (apply Vr.ext; assumption) | (apply Vr.updX; assumption; rotate_left; omega)))); rfl) (fun ws hVs hUs hzs => ?_)) | (refine TL.ev (ev_buildX rfl rfl) rfl ?_) | (refine TF.s rfl (fun _ _ => ev_buildX rfl rfl) rfl ?_) | (refine TL.ev (ev_field rfl rfl) rfl ?_) | (refine TL.ev (ev_makeFunc rfl) rfl ?_) | (refine TF.s rfl (fun _ _ => ev_makeFunc rfl) rfl ?_) | refine TF.nil ?_ | refine TF.e rfl ?_ | refine TF.alt ?_ ?_ | refine G.treeEnd rfl ?_ | refine G.tree rfl (by repeat (first | exact Ext.refl _ | (refine Ext.trans ?_ (by assumption)) | (apply ext_upd; assumption; rotate_left; omega))) ?_ | refine TL.nilX (fun wq hzq hEq => ?_) | refine T.seq ?_ | refine T.region ?_ | refine TL.nil ?_ | refine T.block ?_ | refine T.cond_t rfl ?_ | refine T.cond_f rfl ?_ | refine T.exit ?_ | refine T.ret ?_ | refine T.skip ?_ | refine G.next ?_ | refine G.blockN ?_ | refine G.blockE ?_ | refine G.blockE' rfl ?_ | refine G.blockR ?_ | refine G.thenE ?_ | refine G.thenR ?_ | refine T.regionQ mixed (by kernel_rfl) ?_ | refine TL.nilQ (fun _ => ?_) | refine G.only ?_ | refine G.mixed ?_ | refine TM.nil ?_ | refine TM.e rfl ?_)
  exact G.retC1 rfl rfl (held_agg hVs rfl) ⟨_, rfl, LI.updV hUs (by repeat (first | assumption | (apply Vr.ext; assumption) | (apply Vr.updX; assumption; rotate_left; omega))) rfl hLo, (by repeat (first | exact Ext.refl _ | (refine Ext.trans ?_ (by assumption)) | (apply ext_upd; assumption; rotate_left; omega))), hKl⟩
end Go.Proofs.Ytlpheckjogphmaa

namespace Go.Proofs.Ytlpheckjogphmaa
open Go Go.Eng Go.Proofs Go.NatM Go.RowKit

end Go.Proofs.Ytlpheckjogphmaa

namespace Go.Proofs.Ytlpheckjogphmaa
open Go Go.Eng Go.Proofs Go.NatM

theorem list_eq_of {l l' : List Nat} (h1 : l.length = l'.length) (h2 : ∀ j, j < l.length → l.getD j 0 = l'.getD j 0) : l = l' := by
  refine List.ext_getElem h1 fun j h h' => ?_
  have := h2 j h
  simpa [List.getD, h, h'] using this
theorem same_ok (H : Array Obj) (B B' : Nat) (A A' : Option Addr) (n c n' c' : Nat) (l l' : List Nat) (hs : Sl u64v H B A n c l) (hs' : Sl u64v H B' A' n' c' l') (hn : n ≤ 1152921504606846976) (hn' : n' ≤ 1152921504606846976) :
    Pure Try.prog 51 #[.slice A n c, .slice A' n' c'] H (.bool (decide (l = l'))) := by
  refine Pure.of fun w hw => ?_
  subst hw
  have hlen := hs.len
  have hlen' := hs'.len
  refine enter Try.func51 rfl rfl rfl ?_
  repeat' (first | refine TL.ev (ev_simple rfl) rfl ?_ | refine TL.grun rfl rfl rfl ?_ | refine TL.gskip rfl rfl rfl rfl ?_ | refine TL.gskipU rfl rfl rfl ?_ | refine TL.ev (ev_len rfl) rfl ?_ | (refine TL.cmpG rfl rfl rfl rfl (fun hc => ?_) (fun hc => ?_) <;> try (exfalso; omega)) | refine TL.ev (ev_arN rfl rfl rfl (by omega)) rfl ?_ | refine TL.ev (ev_arI rfl rfl rfl (by omega)) rfl ?_ | refine TL.ev (ev_neg rfl (by omega)) rfl ?_ | refine TL.ev (ev_indexN rfl rfl (by omega) (by first | exact Or.inr rfl | exact Sl.some (by assumption))) rfl ?_ | refine TL.ev (ev_index rfl rfl (by omega) (by first | exact Or.inr rfl | exact Sl.some (by assumption))) rfl ?_ | refine TL.ev (ev_loadU rfl (by assumption) (by omega)) rfl ?_ | refine TL.ev (ev_loadI rfl (by assumption) (by omega)) rfl ?_ | refine T.seq ?_ | refine T.region ?_ | refine TL.nil ?_ | refine T.block ?_ | refine T.cond_t rfl ?_ | refine T.cond_f rfl ?_ | refine T.exit ?_ | refine T.ret ?_ | refine T.skip ?_ | refine G.next ?_ | refine G.blockN ?_ | refine G.blockE ?_ | refine G.blockE' rfl ?_ | refine G.blockR ?_ | refine G.thenE ?_ | refine G.thenR ?_ | refine T.regionQ mixed (by kernel_rfl) ?_ | refine TL.nilQ (fun _ => ?_) | refine G.only ?_ | refine G.mixed ?_ | refine TM.nil ?_ | refine TM.e rfl ?_)
  · refine G.ret1 rfl rfl ⟨?_, Qt.refl _⟩
    rw [decide_eq_false (fun h => hc (by subst h; omega))]
  · refine T.loop (fun k : Nat => [(0, .slice A n c), (1, .slice A' n' c'), (5, .int .i64 (k : Int))]) (fun k w' => Qt w w' ∧ k ≤ n ∧ ∀ j, j < k → l.getD j 0 = l'.getD j 0) (fun k => n - k) 0 (by repeat (first | exact Sub.nil _ | refine Sub.cons rfl ?_ | refine Sub.cons' rfl (int_congr (by omega)) ?_)) ⟨Qt.refl w, Nat.zero_le _, fun j hj => by omega⟩ ?_
    rintro k w' ⟨⟨q, rfl⟩, hk, hz⟩
    have hq : Qt w (w.drewN q) := ⟨q, rfl⟩
    repeat' (first | refine TL.ev (ev_simple rfl) rfl ?_ | refine TL.grun rfl rfl rfl ?_ | refine TL.gskip rfl rfl rfl rfl ?_ | refine TL.gskipU rfl rfl rfl ?_ | refine TL.ev (ev_len rfl) rfl ?_ | (refine TL.cmpG rfl rfl rfl rfl (fun hc => ?_) (fun hc => ?_) <;> try (exfalso; omega)) | refine TL.ev (ev_arN rfl rfl rfl (by omega)) rfl ?_ | refine TL.ev (ev_arI rfl rfl rfl (by omega)) rfl ?_ | refine TL.ev (ev_neg rfl (by omega)) rfl ?_ | refine TL.ev (ev_indexN rfl rfl (by omega) (by first | exact Or.inr rfl | exact Sl.some (by assumption))) rfl ?_ | refine TL.ev (ev_index rfl rfl (by omega) (by first | exact Or.inr rfl | exact Sl.some (by assumption))) rfl ?_ | refine TL.ev (ev_loadU rfl (by assumption) (by omega)) rfl ?_ | refine TL.ev (ev_loadI rfl (by assumption) (by omega)) rfl ?_ | refine T.seq ?_ | refine T.region ?_ | refine TL.nil ?_ | refine T.block ?_ | refine T.cond_t rfl ?_ | refine T.cond_f rfl ?_ | refine T.exit ?_ | refine T.ret ?_ | refine T.skip ?_ | refine G.next ?_ | refine G.blockN ?_ | refine G.blockE ?_ | refine G.blockE' rfl ?_ | refine G.blockR ?_ | refine G.thenE ?_ | refine G.thenR ?_ | refine T.regionQ mixed (by kernel_rfl) ?_ | refine TL.nilQ (fun _ => ?_) | refine G.only ?_ | refine G.mixed ?_ | refine TM.nil ?_ | refine TM.e rfl ?_)
    · refine G.ret1 rfl rfl ⟨?_, hq.drewN _⟩
      rw [decide_eq_false (fun h => hc (by subst h; rfl))]
    · refine G.again (k + 1) (by repeat (first | exact Sub.nil _ | refine Sub.cons rfl ?_ | refine Sub.cons' rfl (int_congr (by omega)) ?_)) ⟨hq.drewN _, by omega, fun j hj => ?_⟩ (by omega)
      rcases Nat.lt_or_ge j k with h | h
      · exact hz j h
      · obtain rfl : j = k := by omega
        omega
    · refine G.ret1 rfl rfl ⟨?_, hq⟩
      rw [decide_eq_true (list_eq_of (by omega) (fun j hj => hz j (by omega)))]
theorem same_t (H : Array Obj) (B B' : Nat) (A A' : Option Addr) (n c n' c' : Nat) (l l' : List Nat) (hs : Sl u64v H B A n c l) (hs' : Sl u64v H B' A' n' c' l') (hn : n ≤ 1152921504606846976) (hn' : n' ≤ 1152921504606846976) (h : l = l') :
    Pure Try.prog 51 #[.slice A n c, .slice A' n' c'] H (.bool true) := by
  have := same_ok H B B' A A' n c n' c' l l' hs hs' hn hn'
  rwa [decide_eq_true h] at this
end Go.Proofs.Ytlpheckjogphmaa

namespace Go.Proofs.Ytlpheckjogphmaa
open Go Go.Eng Go.Proofs Go.NatM Go.RowKit

def YesM (w : World) (e : Ending) (w' : World) : Prop := e = .returned (.bool true) ∧ Ext w w'
end Go.Proofs.Ytlpheckjogphmaa

namespace Go.Proofs.Ytlpheckjogphmaa
open Go Go.Eng Go.Proofs Go.NatM Go.RowKit

end Go.Proofs.Ytlpheckjogphmaa

namespace Go.Proofs.Ytlpheckjogphmaa
open Go Go.Eng Go.Proofs Go.NatM Go.RowKit

/-- a matrix that reads, sound or not; entries of at most K words -/
structure RM (H : Array Obj) (x : MV) (K : Nat) : Prop where
  s : Sm 2 ivc H H.size x.A x.n x.k x.l
  g : ∀ y ∈ x.l, GI H y ∧ y.m.n ≤ K
theorem GM.updV {w w' : World} {x : MV} {r c K b : Nat} {t : TypeId} {cs : List Value} (hu : Upd b w w') (hV : Vr w.heap b t cs) (h1 : cs.all noU64 = true) (h2 : cs.all noBool = true) (h : GM w.heap x r c K) : GM w'.heap x r c K :=
  ⟨h.sh, (sm_updV hu hV h2 h.s).size, fun y hy => ⟨⟨(sl_updV hu hV h1 (h.g y hy).1.s).size, (h.g y hy).1.u⟩, (h.g y hy).2⟩⟩
end Go.Proofs.Ytlpheckjogphmaa

namespace Go.Proofs.Ytlpheckjogphmaa
open Go Go.Eng Go.Proofs Go.NatM Go.RowKit

theorem Sl.deS {F : Nat → Prop} {H H' : Array Obj} {n c : Nat} {A : Option Addr} {l : List Nat} (hd : DE F H H') (h : Sl u64v H H.size A n c l) : Sl u64v H' H'.size A n c l := (Sl.de hd h).size
theorem Sm.deS {F : Nat → Prop} {H H' : Array Obj} {n c : Nat} {A : Option Addr} {l : List IV} (hF : ∀ b, fpA A n b → F b) (hd : DE F H H') (h : Sm 2 ivc H H.size A n c l) : Sm 2 ivc H' H'.size A n c l := (Sm.de hF hd h).size
theorem GI.de {F : Nat → Prop} {H H' : Array Obj} {x : IV} (hd : DE F H H') (h : GI H x) : GI H' x := ⟨Sl.deS hd h.s, h.u⟩
theorem LI.de {F : Nat → Prop} {H H' : Array Obj} {x : IV} {z : Int} (hd : DE F H H') (h : LI H z x) : LI H' z x := ⟨h.g.de hd, h.d, h.e⟩
theorem GM.de {H H' : Array Obj} {x : MV} {r c K : Nat} (hd : DE (fpA x.A x.n) H H') (h : GM H x r c K) : GM H' x r c K := ⟨h.sh, Sm.deS (fun _ h => h) hd h.s, fun y hy => ⟨(h.g y hy).1.de hd, (h.g y hy).2⟩⟩
theorem LM.de {H H' : Array Obj} {x : MV} {r c K : Nat} {F : Nat → Nat → Int} (hd : DE (fpA x.A x.n) H H') (h : LM H x r c F K) : LM H' x r c F K := ⟨h.sh, Sm.deS (fun _ h => h) hd h.s, fun i j hi hj => ⟨(h.g i j hi hj).1.de hd, (h.g i j hi hj).2⟩⟩
theorem RM.de {H H' : Array Obj} {x : MV} {K : Nat} (hd : DE (fpA x.A x.n) H H') (h : RM H x K) : RM H' x K := ⟨Sm.deS (fun _ h => h) hd h.s, fun y hy => ⟨(h.g y hy).1.de hd, (h.g y hy).2⟩⟩
def dpSl (A : Option Addr) (n c : Nat) (l : List Nat) : DP := ⟨fun H => Sl u64v H H.size A n c l, fun _ => False, fun _ _ _ h => h.elim, fun _ _ hd h => Sl.deS hd h⟩
def dpGI (x : IV) : DP := ⟨fun H => GI H x, fun _ => False, fun _ _ _ h => h.elim, fun _ _ hd h => h.de hd⟩
def dpLI (z : Int) (x : IV) : DP := ⟨fun H => LI H z x, fun _ => False, fun _ _ _ h => h.elim, fun _ _ hd h => h.de hd⟩
section
variable {S : Nat → Prop} {w0 w w' : World} {L : List VB} {D : List DP}
theorem Fr.addSl (h : Fr w0 w L D S) {A : Option Addr} {n c : Nat} {l : List Nat} (k : Sl u64v w.heap w.heap.size A n c l) : Fr w0 w L (dpSl A n c l :: D) S := h.add _ k fun _ _ h => h
theorem Fr.addGI (h : Fr w0 w L D S) {x : IV} (k : GI w.heap x) : Fr w0 w L (dpGI x :: D) S := h.add _ k fun _ _ h => h
theorem Fr.addLI (h : Fr w0 w L D S) {x : IV} {z : Int} (k : LI w.heap z x) : Fr w0 w L (dpLI z x :: D) S := h.add _ k fun _ _ h => h
theorem Fr.sl (h : Fr w0 w L D S) {A : Option Addr} {n c : Nat} {l : List Nat} (hm : dpSl A n c l ∈ D) : Sl u64v w.heap w.heap.size A n c l := h.data _ hm
theorem Fr.gi (h : Fr w0 w L D S) {x : IV} (hm : dpGI x ∈ D) : GI w.heap x := h.data _ hm
theorem Fr.li (h : Fr w0 w L D S) {x : IV} {z : Int} (hm : dpLI z x ∈ D) : LI w.heap z x := h.data _ hm
end
attribute [irreducible] dpSl dpGI dpLI

end Go.Proofs.Ytlpheckjogphmaa

namespace Go.Proofs.Ytlpheckjogphmaa
open Go Go.Eng Go.Proofs Go.NatM Go.RowKit

/-- the first i of a list are Z, in least form, of at most K words -/
def LsK (i : Nat) (l : List IV) (Z : Nat → Int) (K : Nat) (H : Array Obj) : Prop := ∀ q, q < i → LI H (Z q) (l.getD q default) ∧ (l.getD q default).m.n ≤ K
section
variable {S : Nat → Prop} {w0 w w' : World} {L : List VB} {D : List DP}
end

theorem LsK.set {H : Array Obj} {l : List IV} {Z : Nat → Int} {i K : Nat} {u : IV} (h : LsK i l Z K H) (hi : i < l.length) (hu : LI H (Z i) u) (hn : u.m.n ≤ K) : LsK (i + 1) (l.set i u) Z K H := by
  intro q hq
  by_cases e : q = i
  · subst e
    have e1 : (l.set q u).getD q default = u := by simp [List.getD, hi]
    rw [e1]; exact ⟨hu, hn⟩
  · have e1 : (l.set i u).getD q default = l.getD q default := by simp [List.getD, List.getElem?_set_ne (fun h => e h.symm)]
    rw [e1]; exact h q (by omega)
/-- a list in memory: the numbers Z in least form, of at most K words each -/
structure LL (H : Array Obj) (A : Option Addr) (n k : Nat) (l : List IV) (Z : Nat → Int) (K : Nat) : Prop where
  s : Sm 2 ivc H H.size A n k l
  g : LsK n l Z K H
theorem LL.ext {w w' : World} {A : Option Addr} {n k K : Nat} {l : List IV} {Z : Nat → Int} (hE : Ext w w') (h : LL w.heap A n k l Z K) : LL w'.heap A n k l Z K := ⟨(h.s.ext hE).size, fun q hq => ⟨(h.g q hq).1.ext hE, (h.g q hq).2⟩⟩
theorem LL.de {H H' : Array Obj} {A : Option Addr} {n k K : Nat} {l : List IV} {Z : Nat → Int} (hd : DE (fpA A n) H H') (h : LL H A n k l Z K) : LL H' A n k l Z K := ⟨Sm.deS (fun _ h => h) hd h.s, fun q hq => ⟨(h.g q hq).1.de hd, (h.g q hq).2⟩⟩
end Go.Proofs.Ytlpheckjogphmaa

namespace Go.N16

def U64 (l : List Nat) : Prop := ∀ x ∈ l, x < 65536
def val : List Nat → Nat
  | [] => 0
  | x :: l => x + 65536 * val l
/-- how many words up to the highest that is not 0 -/
def sz : List Nat → Nat
  | [] => 0
  | x :: l => if sz l = 0 ∧ x = 0 then 0 else sz l + 1
/-- the words of a number, without zeros at the high end -/
def dig (n : Nat) : List Nat := if h : n = 0 then [] else (n % 65536) :: dig (n / 65536)
termination_by n
decreasing_by exact Nat.div_lt_self (by omega) (by omega)

theorem U64.nil : U64 [] := fun x h => by cases h
theorem U64.cons {x : Nat} {l : List Nat} (h : x < 65536) (hl : U64 l) : U64 (x :: l) := fun y hy => by
  rcases List.mem_cons.1 hy with rfl | hy
  · exact h
  · exact hl y hy
theorem U64.head {x : Nat} {l : List Nat} (h : U64 (x :: l)) : x < 65536 := h x (by simp)
theorem U64.tail {x : Nat} {l : List Nat} (h : U64 (x :: l)) : U64 l := fun y hy => h y (by simp [hy])
theorem U64.append {l r : List Nat} (h : U64 l) (k : U64 r) : U64 (l ++ r) := fun y hy => (List.mem_append.1 hy).elim (h y) (k y)
theorem U64.take {l : List Nat} (h : U64 l) (n : Nat) : U64 (l.take n) := fun y hy => h y (List.mem_of_mem_take hy)
theorem U64.drop {l : List Nat} (h : U64 l) (n : Nat) : U64 (l.drop n) := fun y hy => h y (List.mem_of_mem_drop hy)
theorem U64.replicate (n : Nat) : U64 (List.replicate n 0) := fun y hy => by rw [(List.mem_replicate.1 hy).2]; omega
theorem U64.one {x : Nat} (h : x < 65536) : U64 [x] := U64.cons h U64.nil
theorem U64.getD {l : List Nat} (h : U64 l) (k : Nat) : l.getD k 0 < 65536 := by
  rcases Nat.lt_or_ge k l.length with hk | hk
  · have : l.getD k 0 = l[k] := by simp [List.getD, hk]
    rw [this]; exact h _ (List.getElem_mem hk)
  · simp [List.getD, List.getElem?_eq_none hk]
theorem U64.set {l : List Nat} (h : U64 l) (k x : Nat) (hx : x < 65536) : U64 (l.set k x) := fun y hy => by
  rcases List.mem_or_eq_of_mem_set hy with hy | rfl
  · exact h y hy
  · exact hx

theorem getD_ge {l : List Nat} {j : Nat} (h : l.length ≤ j) : l.getD j 0 = 0 := by simp [List.getD, List.getElem?_eq_none h]
theorem sz_le (l : List Nat) : sz l ≤ l.length := by
  induction l with
  | nil => simp [sz]
  | cons x l ih => simp only [sz, List.length_cons]; split <;> omega
theorem sz_eq (l : List Nat) (n : Nat) (h1 : n ≤ l.length) (h2 : ∀ j, n ≤ j → l.getD j 0 = 0) (h3 : n = 0 ∨ l.getD (n - 1) 0 ≠ 0) : sz l = n := by
  induction l generalizing n with
  | nil => simp at h1; simp [sz, h1]
  | cons x l ih =>
    rcases n with _ | n
    · have hx : x = 0 := by simpa using h2 0 (by omega)
      have : sz l = 0 := ih 0 (by omega) (fun j _ => by simpa using h2 (j + 1) (by omega)) (.inl rfl)
      simp [sz, this, hx]
    · have hl : sz l = n := by
        refine ih n (by simpa using h1) (fun j hj => by simpa using h2 (j + 1) (by omega)) ?_
        rcases n with _ | n
        · exact .inl rfl
        · right; simpa using h3.resolve_left (by omega)
      simp only [sz]
      rw [if_neg]
      · omega
      · rintro ⟨h0, hx⟩
        have : n = 0 := by omega
        subst this
        simp [hx] at h3
theorem sz_top (l : List Nat) : sz l = 0 ∨ l.getD (sz l - 1) 0 ≠ 0 := by
  induction l with
  | nil => simp [sz]
  | cons x l ih =>
    simp only [sz]
    split
    · exact .inl rfl
    · rename_i h
      right
      rcases Nat.eq_zero_or_pos (sz l) with h0 | h0
      · have hx : x ≠ 0 := fun hx => h ⟨h0, hx⟩
        simp [h0, hx]
      · rcases ih with h1 | h1
        · omega
        · rw [show sz l + 1 - 1 = (sz l - 1) + 1 by omega]; simpa using h1
theorem sz_zero (l : List Nat) (j : Nat) (h : sz l ≤ j) : l.getD j 0 = 0 := by
  induction l generalizing j with
  | nil => simp
  | cons x l ih =>
    simp only [sz] at h
    split at h
    · rename_i h0
      rcases j with _ | j
      · simpa using h0.2
      · simpa using ih j (by omega)
    · rcases j with _ | j
      · omega
      · simpa using ih j (by omega)

theorem val_append (l r : List Nat) : val (l ++ r) = val l + 65536 ^ l.length * val r := by
  induction l with
  | nil => simp [val]
  | cons x l ih => simp only [List.cons_append, val, ih, List.length_cons, Nat.pow_succ, Nat.mul_add, Nat.add_assoc]; congr 2; rw [← Nat.mul_assoc, Nat.mul_comm 65536]
theorem val_one (x : Nat) : val [x] = x := by simp [val]
theorem val_snoc (l : List Nat) (x : Nat) : val (l ++ [x]) = val l + 65536 ^ l.length * x := by rw [val_append, val_one]
theorem val_zeros (n : Nat) : val (List.replicate n 0) = 0 := by
  induction n with
  | zero => rfl
  | succ n ih => simp [List.replicate_succ, val, ih]
theorem val_take_succ (l : List Nat) (i : Nat) : val (l.take (i + 1)) = val (l.take i) + 65536 ^ i * l.getD i 0 := by
  rcases Nat.lt_or_ge i l.length with h | h
  · rw [List.take_succ_eq_append_getElem h, val_snoc]
    simp [List.getD, h, Nat.min_eq_left (Nat.le_of_lt h)]
  · rw [List.take_of_length_le h, List.take_of_length_le (by omega), getD_ge h]; simp
theorem val_lt {l : List Nat} (h : U64 l) : val l < 65536 ^ l.length := by
  induction l with
  | nil => simp [val]
  | cons x l ih =>
    have h1 := ih h.tail
    have h2 := h.head
    simp only [val, List.length_cons, Nat.pow_succ]
    have h3 : val l + 1 ≤ 65536 ^ l.length := h1
    have h4 := Nat.mul_le_mul_left 65536 h3
    rw [Nat.mul_comm (65536 ^ l.length)]
    omega
theorem val_sz (l : List Nat) : val (l.take (sz l)) = val l := by
  induction l with
  | nil => rfl
  | cons x l ih =>
    simp only [sz]
    split
    · rename_i h
      rw [h.1] at ih
      simp only [List.take_zero, val] at ih ⊢
      rw [← ih, h.2]
    · simp only [List.take_succ_cons, val, ih]
theorem val_take_ge (l : List Nat) (k : Nat) (h : sz l ≤ k) : val (l.take k) = val l := by
  have e : l = l.take k ++ l.drop k := (List.take_append_drop k l).symm
  have h0 : val (l.drop k) = 0 := by
    have : l.drop k = List.replicate (l.drop k).length 0 := by
      apply List.ext_getElem
      · simp
      · intro i h1 h2
        have hz := sz_zero l (k + i) (by omega)
        simp only [List.getElem_drop, List.getElem_replicate]
        rw [List.length_drop] at h1
        have hki : k + i < l.length := by omega
        have : l.getD (k + i) 0 = l[k + i] := by simp [List.getD, hki]
        omega
    rw [this, val_zeros]
  conv => rhs; rw [e, val_append, h0]
  simp

theorem dig_zero : dig 0 = [] := by rw [dig]; simp
theorem dig_pos {n : Nat} (h : n ≠ 0) : dig n = (n % 65536) :: dig (n / 65536) := by rw [dig]; simp [h]
theorem val_dig (n : Nat) : val (dig n) = n := by
  induction n using Nat.strongRecOn with
  | _ n ih =>
    rcases Nat.eq_zero_or_pos n with rfl | h
    · rw [dig_zero]; rfl
    · rw [dig_pos (by omega), val, ih _ (Nat.div_lt_self h (by omega))]; omega
theorem U64_dig (n : Nat) : U64 (dig n) := by
  induction n using Nat.strongRecOn with
  | _ n ih =>
    rcases Nat.eq_zero_or_pos n with rfl | h
    · rw [dig_zero]; exact U64.nil
    · rw [dig_pos (by omega)]; exact U64.cons (Nat.mod_lt _ (by omega)) (ih _ (Nat.div_lt_self h (by omega)))
/-- the words up to the highest that is not 0 are the digits of the number -/
theorem take_sz {l : List Nat} (h : U64 l) : l.take (sz l) = dig (val l) := by
  induction l with
  | nil => simp [sz, val, dig_zero]
  | cons x l ih =>
    have hx := h.head
    have ih' := ih h.tail
    simp only [sz, val]
    split
    · rename_i h0
      rw [h0.1] at ih'
      have hv : val l = 0 := by rw [← val_sz l, h0.1]; rfl
      rw [h0.2, hv]; simp [dig_zero]
    · rename_i h0
      have hne : x + 65536 * val l ≠ 0 := by
        intro he
        have hx0 : x = 0 := by omega
        have hv : val l = 0 := by omega
        apply h0
        refine ⟨?_, hx0⟩
        rcases sz_top l with h1 | h1
        · exact h1
        · rw [hv, dig_zero] at ih'
          have := congrArg List.length ih'
          rw [List.length_take, List.length_nil] at this
          have := sz_le l
          omega
      rw [dig_pos hne, List.take_succ_cons, ih']
      congr 1
      · omega
      · congr 1; omega
theorem dig_length {l : List Nat} (h : U64 l) : (dig (val l)).length = sz l := by rw [← take_sz h, List.length_take]; have := sz_le l; omega
theorem dig_length_le {n k : Nat} (h : n < 65536 ^ k) : (dig n).length ≤ k := by
  induction k generalizing n with
  | zero => have : n = 0 := by simpa using h
            rw [this, dig_zero]; simp
  | succ k ih =>
    rcases Nat.eq_zero_or_pos n with rfl | h0
    · rw [dig_zero]; simp
    · rw [dig_pos (by omega), List.length_cons]
      have := ih (n := n / 65536) (by rw [Nat.div_lt_iff_lt_mul (by omega)]; rw [Nat.pow_succ] at h; exact h)
      omega
/-- a list of so many words more is not below -/
theorem pow_le_val {l : List Nat} (h : sz l ≠ 0) : 65536 ^ (sz l - 1) ≤ val l := by
  rw [← val_sz l]
  obtain ⟨k, hk⟩ : ∃ k, sz l = k + 1 := ⟨sz l - 1, by omega⟩
  have ht := (sz_top l).resolve_left h
  rw [hk, val_take_succ]
  rw [hk] at ht
  simp only [Nat.add_sub_cancel] at ht ⊢
  have : 65536 ^ k * 1 ≤ 65536 ^ k * l.getD k 0 := Nat.mul_le_mul_left _ (by omega)
  omega
theorem val_lt_sz {l : List Nat} (h : U64 l) : val l < 65536 ^ sz l := by
  have := val_lt (h.take (sz l))
  rw [val_sz, List.length_take, Nat.min_eq_left (sz_le l)] at this
  exact this
theorem lt_of_sz_lt {l r : List Nat} (hl : U64 l) (h : sz l < sz r) : val l < val r :=
  Nat.lt_of_lt_of_le (val_lt_sz hl) (Nat.le_trans (Nat.pow_le_pow_right (by omega) (by omega)) (pow_le_val (by omega)))
/-- a new word behind what is done, before zeros -/
theorem set_zeros (D : List Nat) (r x : Nat) : (D ++ List.replicate (r + 1) 0).set D.length x = (D ++ [x]) ++ List.replicate r 0 := by
  rw [List.set_append_right _ _ (Nat.le_refl _), Nat.sub_self, List.replicate_succ, List.set_cons_zero, List.append_assoc]; rfl
theorem val_ext {a b : List Nat} (h : ∀ j, a.getD j 0 = b.getD j 0) : val a = val b := by
  induction a generalizing b with
  | nil =>
    induction b with
    | nil => rfl
    | cons y b ih =>
      have h0 := h 0
      have := ih fun j => by simpa using h (j + 1)
      simp at h0
      simp [val, ← h0, ← this]
  | cons x a ih =>
    cases b with
    | nil =>
      have h0 := h 0
      have := ih (b := []) fun j => by simpa using h (j + 1)
      simp at h0
      simp [val, h0, this]
    | cons y b =>
      have h0 := h 0
      have := ih (b := b) fun j => by simpa using h (j + 1)
      simp at h0
      simp [val, h0, this]
theorem getD_drop (l : List Nat) (k j : Nat) : (l.drop k).getD j 0 = l.getD (k + j) 0 := by simp [List.getD, List.getElem?_drop]
theorem val_split (l : List Nat) (k : Nat) : val l = val (l.take k) + 65536 ^ k * val (l.drop k) := by
  induction k generalizing l with
  | zero => simp [val]
  | succ k ih =>
    cases l with
    | nil => simp [val]
    | cons x l =>
      have := ih l
      simp only [List.take_succ_cons, List.drop_succ_cons, val, this, Nat.pow_succ]
      rw [Nat.mul_add, Nat.add_assoc, Nat.mul_comm (65536 ^ k) 65536, Nat.mul_assoc]
theorem val_drop (l : List Nat) (k : Nat) : val (l.drop k) = l.getD k 0 + 65536 * val (l.drop (k + 1)) := by
  rcases Nat.lt_or_ge k l.length with h | h
  · rw [List.drop_eq_getElem_cons h, val]; simp [List.getD, h]
  · rw [List.drop_of_length_le h, List.drop_of_length_le (by omega), getD_ge h]; rfl
theorem U64.take_lt {l : List Nat} (h : U64 l) (k : Nat) : val (l.take k) < 65536 ^ k :=
  Nat.lt_of_lt_of_le (val_lt (h.take k)) (Nat.pow_le_pow_right (by omega) (by rw [List.length_take]; omega))
/-- the highest place at which two lists differ decides -/
theorem val_lt_of {a b : List Nat} (ha : U64 a) (k : Nat) (h1 : ∀ j, k < j → a.getD j 0 = b.getD j 0) (h2 : a.getD k 0 < b.getD k 0) : val a < val b := by
  have e : val (a.drop (k + 1)) = val (b.drop (k + 1)) := val_ext fun j => by rw [getD_drop, getD_drop]; exact h1 _ (by omega)
  have l1 := ha.take_lt k
  rw [val_split a k, val_split b k, val_drop a k, val_drop b k, e]
  generalize val (b.drop (k + 1)) = q
  generalize 65536 ^ k = p at l1 ⊢
  have : p * (a.getD k 0 + 65536 * q) + p ≤ p * (b.getD k 0 + 65536 * q) := by
    rw [← Nat.mul_succ]
    exact Nat.mul_le_mul_left _ (by omega)
  omega
def cmp3 (m n : Nat) : Int := if m < n then -1 else if n < m then 1 else 0
theorem add_step {p vD va vb s c' x y c : Nat} (h : vD + p * c = va + vb) (e : s + 65536 * c' = x + y + c) :
    vD + p * s + p * 65536 * c' = (va + p * x) + (vb + p * y) := by
  have e1 : p * (s + 65536 * c') = p * (x + y + c) := by rw [e]
  rw [Nat.mul_add, Nat.mul_add, Nat.mul_add, ← Nat.mul_assoc] at e1
  omega
theorem sub_step {p vD va vb s c' x y c : Nat} (h : vD + vb = va + p * c) (e : s + y + c = x + 65536 * c') :
    (vD + p * s) + (vb + p * y) = (va + p * x) + p * 65536 * c' := by
  have e1 : p * (s + y + c) = p * (x + 65536 * c') := by rw [e]
  rw [Nat.mul_add, Nat.mul_add, Nat.mul_add, ← Nat.mul_assoc] at e1
  omega
end Go.N16

namespace Go.NatM

end Go.NatM

namespace Go.NatM
open Go

end Go.NatM

namespace Go.Proofs.Ytlpheckjogphmaa
open Go Go.Eng Go.Proofs Go.NatM Go.RowKit

/-- a new list of small digits, of at most K -/
def RetI (w : World) (L : List Nat) (K : Nat) (e : Ending) (w' : World) : Prop := ∃ A n c, e = .returned (.slice A n c) ∧ Ow n64v w'.heap w.heap.size 3 A n c L ∧ Ext w w' ∧ n ≤ K
theorem RetI.mk {w w' : World} {L : List Nat} {A : Option Addr} {n c K : Nat} (h : Ow n64v w'.heap w.heap.size 3 A n c L) (he : Ext w w') (hk : n ≤ K) : RetI w L K (.returned (.slice A n c)) w' := ⟨A, n, c, rfl, h, he, hk⟩

end Go.Proofs.Ytlpheckjogphmaa

namespace Go.Proofs.Ytlpheckjogphmaa
open Go Go.Eng Go.Proofs Go.NatM Go.RowKit

end Go.Proofs.Ytlpheckjogphmaa

namespace Go.Proofs.Ytlpheckjogphmaa
open Go Go.Eng Go.Proofs Go.NatM Go.RowKit

/-- the sign of an integer -/
def sig (z : Int) : Int := if z < 0 then -1 else if z = 0 then 0 else 1
theorem ival_abs (x : IV) : (ival x).natAbs = val x.m.l := sgn_abs _ _
end Go.Proofs.Ytlpheckjogphmaa

namespace Go.Proofs.Ytlpheckjogphmaa
open Go Go.Eng Go.Proofs Go.NatM Go.RowKit

end Go.Proofs.Ytlpheckjogphmaa

namespace Go.Proofs.Ytlpheckjogphmaa
open Go Go.Eng Go.Proofs Go.NatM Go.RowKit

/-- a matrix value whose numbers are in range -/
structure InR (x : MV) : Prop where
  r : -9223372036854775808 ≤ x.r ∧ x.r < 9223372036854775808
  c : -9223372036854775808 ≤ x.c ∧ x.c < 9223372036854775808
theorem Sm.sub {α : Type} {k : Nat} {f : α → List Value} {H : Array Obj} {B n c lo m : Nat} {A : Option Addr} {l : List α} (h : Sm k f H B A n c l) (hm : lo + m ≤ n) : Sm k f H B (elemA A (lo * k)) m (c - lo) ((l.drop lo).take m) := by
  have hlen := h.len
  have hcap := h.cap
  refine ⟨by rw [List.length_take, List.length_drop]; omega, by omega, h.pos, fun x hx => h.wid x (List.mem_of_mem_drop (List.mem_of_mem_take hx)), ?_⟩
  rcases Nat.eq_zero_or_pos m with h0 | h0
  · exact .inl h0
  · rcases h.mem with h1 | ⟨b, o, e, hlt, hc⟩
    · omega
    · refine .inr ⟨b, o + lo * k, by rw [e]; simp [elemA, add_mk], hlt, fun j x hx q v hv => ?_⟩
      have h2 : l[lo + j]? = some x := by
        rw [List.getElem?_take] at hx
        split at hx
        · rwa [List.getElem?_drop] at hx
        · cases hx
      have := hc (lo + j) x h2 q v hv
      rw [Nat.add_mul] at this
      rw [show o + lo * k + (j * k + q) = o + (lo * k + j * k + q) by omega]
      exact this
/-- a row that a walk hands over -/
structure RowV where
  i : Nat
  A : Option Addr
  n : Nat
  k : Nat
  l : List IV
theorem LL.congr {H : Array Obj} {A : Option Addr} {n k K : Nat} {l : List IV} {Z Z' : Nat → Int} (h : LL H A n k l Z K) (e : ∀ q, q < n → Z q = Z' q) : LL H A n k l Z' K := ⟨h.s, fun q hq => by rw [← e q hq]; exact h.g q hq⟩
end Go.Proofs.Ytlpheckjogphmaa

namespace Go.Proofs.Ytlpheckjogphmaa
open Go Go.Eng Go.Proofs Go.NatM Go.ChangeShapes Go.WideShapes Go.ChangeAt Go.RowKit

theorem spot_none {w : World} {a : Addr} {v : Value} (h : w.cell? a = some v) : a = ⟨a.block, a.off, none⟩ := by
  cases a with
  | mk b o s =>
    cases s with
    | none => rfl
    | some s => unfold World.cell? at h; split at h <;> simp at h
theorem getD_map_toNat (zs : List Int) (hz : ∀ z ∈ zs, 0 ≤ z) (j : Nat) (hj : j < zs.length) : ((zs.map Int.toNat)[j]?).map (fun x : Nat => (x : Int)) = some (zs.getD j 0) := by
  simp [List.getD, hj, Int.toNat_of_nonneg (hz _ (List.getElem_mem hj))]
/-- an int that came in -/
theorem open_i64 {H : Type} {enc : TypeId × Value → H} {P : Program} {t : TypeId} {W : World} {base base' : Nat} {spare : Nat → Bool} {held : Bool} {v : Value} {d : DataW H} {ps : List MemPlace}
    (ht : P.underlying t = some (.int .i64)) (hv : Value.okWide P W .any base' t v) (h : DataW.Trod enc P W base spare held t v d ps) :
    ∃ x : Int, v = .int .i64 x ∧ -9223372036854775808 ≤ x ∧ x < 9223372036854775808 := by
  obtain ⟨x, e1, _, _, wx⟩ := open_int ht hv h
  refine ⟨x, e1, ?_⟩
  simp [Lit.wf, IntKind.min, IntKind.max, IntKind.signed, IntKind.bits] at wx
  omega
end Go.Proofs.Ytlpheckjogphmaa

namespace Go.Proofs.Ytlpheckjogphmaa
open Go Go.Eng Go.Proofs Go.NatM

theorem bulk_one {H : Type} (d : DataW H) : 1 ≤ Rows.uptoBulk d := by
  cases d with
  | lit l => cases l <;> simp [Rows.uptoBulk]
  | nil => simp [Rows.uptoBulk]
  | ptr d => simp [Rows.uptoBulk]
  | slice elems spare => simp [Rows.uptoBulk]
  | agg parts => simp [Rows.uptoBulk]
  | iface t d => simp [Rows.uptoBulk]
  | map entries => simp [Rows.uptoBulk]
  | held h => simp [Rows.uptoBulk]
theorem bulk_part {H : Type} {d : DataW H} {l : List (DataW H)} (h : d ∈ l) : Rows.uptoBulk d ≤ Rows.uptoBulkAll l := by
  induction l with
  | nil => cases h
  | cons x r ih =>
    simp only [Rows.uptoBulkAll]
    cases List.mem_cons.1 h with
    | inl e => subst e; omega
    | inr e => have := ih e; omega
theorem bulk_length {H : Type} (l : List (DataW H)) : l.length ≤ Rows.uptoBulkAll l := by
  induction l with
  | nil => simp [Rows.uptoBulkAll]
  | cons x r ih => have := bulk_one x; simp only [Rows.uptoBulkAll, List.length_cons]; omega
theorem small_all {H : Type} {ds gs : List (DataW H)} (h : Rows.uptoSmall H (ds ++ gs) = true) : Rows.uptoBulkAll (ds ++ gs) ≤ 1048576 := of_decide_eq_true h
theorem small_part {H : Type} {ds gs : List (DataW H)} (h : Rows.uptoSmall H (ds ++ gs) = true) {j : Nat} {d : DataW H} (hd : (ds ++ gs)[j]? = some d) : Rows.uptoBulk d ≤ 1048576 := by
  have h1 := small_all h
  have h2 := bulk_part (List.mem_of_getElem? hd)
  omega
end Go.Proofs.Ytlpheckjogphmaa

namespace Go.Proofs.Ytlpheckjogphmaa
open Go Go.Eng Go.Proofs Go.NatM

end Go.Proofs.Ytlpheckjogphmaa

namespace Go.Proofs.Ytlpheckjogphmaa
open Go Go.Eng Go.Proofs Go.NatM

end Go.Proofs.Ytlpheckjogphmaa

namespace Go.Proofs.Ytlpheckjogphmaa
open Go Go.Eng Go.Proofs Go.NatM

/-- the words of each -/
def LS (H : Array Obj) (B : Nat) (L : List (SA Nat)) : Prop := ∀ x ∈ L, Sl u64v H B x.A x.n x.c x.l ∧ U64 x.l
theorem LS.ext {w w' : World} {B : Nat} {L : List (SA Nat)} (hb : Ext w w') (h : LS w.heap B L) : LS w'.heap B L := fun x hx => ⟨(h x hx).1.ext hb, (h x hx).2⟩
theorem LS.take {H : Array Obj} {B : Nat} {L : List (SA Nat)} (h : LS H B L) (k : Nat) : LS H B (L.take k) := fun x hx => h x (List.mem_of_mem_take hx)
theorem LS.drop {H : Array Obj} {B : Nat} {L : List (SA Nat)} (h : LS H B L) (k : Nat) : LS H B (L.drop k) := fun x hx => h x (List.mem_of_mem_drop hx)
end Go.Proofs.Ytlpheckjogphmaa

namespace Go.Proofs.Ytlpheckjogphmaa
open Go Go.Eng Go.Proofs Go.NatM Go.ChangeShapes Go.WideShapes Go.ChangeAt Go.RowKit Go.Deep

/-- a slice of words, by its cells -/
theorem open_u64c {H : Type} {enc : TypeId × Value → H} {P : Program} {t e : TypeId} {W : World} {base : Nat} {spare : Nat → Bool} {held : Bool} {v : Value} {d : DataW H} {ps : List MemPlace} {fuel : Nat}
    (ht : P.underlying t = some (.slice e)) (he : P.underlying e = some (.int .u64)) (hc : P.cellsOf e = 1) (hf : DataW.trod enc P W base spare held fuel t [v] = some (d, ps)) :
    ∃ x : SA Nat, v = sav x ∧ Sl u64v W.heap W.heap.size x.A x.n x.c x.l ∧ U64 x.l ∧ x.n + 1 ≤ Rows.uptoBulk d := by
  rcases open_ints ht he hc hf with ⟨hcs, hx⟩ | ⟨a, len, cap, zs, hcs, hb, hl, hm, hz, hx, hcell, hwz⟩
  · cases hcs
    cases hx
    exact ⟨⟨none, 0, 0, []⟩, rfl, Sl.nil _ _ _ _ _, U64.nil, bulk_one _⟩
  · cases hcs
    cases hx
    have hlen : len ≤ zs.length := by split at hz <;> omega
    have hr : ∀ z ∈ zs, 0 ≤ z ∧ z < 18446744073709551616 := fun z hz' => by
      have := hwz z hz'
      simp [Lit.wf, IntKind.min, IntKind.max, IntKind.signed, IntKind.bits] at this
      omega
    refine ⟨⟨some a, len, cap, (zs.take len).map Int.toNat⟩, rfl, ⟨by simp; omega, hl, ?_⟩, ?_, ?_⟩
    · rcases Nat.eq_zero_or_pos len with h0 | h0
      · exact .inl h0
      · have hc0 := hcell 0 (by omega)
        have ha0 : a.add 0 = a := by simp [Addr.add]
        rw [ha0] at hc0
        have hs := spot_none hc0
        refine .inr ⟨a.block, a.off, by rw [← hs], World.block_lt_of_cell? W a hc0, fun j x hx' => ?_⟩
        have hj : j < len := by
          have := (List.getElem?_eq_some_iff.1 hx').1
          simp at this; omega
        have hcj := hcell j (by omega)
        rw [hs, add_mk, cell_of_hcell] at hcj
        rw [hcj]
        have e1 : (zs.take len).getD j 0 = zs.getD j 0 := by simp [List.getD, List.getElem?_take, hj]
        have e2 := getD_map_toNat (zs.take len) (fun z hz' => (hr z (List.mem_of_mem_take hz')).1) j (by simp; omega)
        rw [hx', e1] at e2
        simp at e2
        show some (Value.int .u64 _) = some (Value.int .u64 _)
        simp only [List.getD] at e2 ⊢
        rw [← e2]
    · intro x hx'
      obtain ⟨z, hz', rfl⟩ := List.mem_map.1 hx'
      have := hr z (List.mem_of_mem_take hz')
      omega
    · have h1 := bulk_length (lits (H := H) .u64 (zs.take len))
      have h2 : (lits (H := H) .u64 (zs.take len)).length = len := by simp [lits]; omega
      simp only [Rows.uptoBulk]
      show len + 1 ≤ _
      omega
end Go.Proofs.Ytlpheckjogphmaa
