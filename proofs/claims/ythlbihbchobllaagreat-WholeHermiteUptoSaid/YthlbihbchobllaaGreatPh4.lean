/- Layer 5: contracts of zint: of, Least, Add, Mul, MulAdd, Of. The engine: blocks of structs known whole, filled from the front; guarded operations of drawn regions. Layer 9: contracts of mat: side, Check, check, build. Layer 9: contracts of mat: product, Mul. Layer 9: contracts of mat: place, Add. ref01.Same: have two lists the same words? Layer 9: the law's own functions: alike, alikeRows, alikeMats, sound, none, of, wakes. Layer 9: of, wakes. Layer 9: MatRing's walk. -/
import Derived.Test.YthlbihbchobllaaGreatPh2
import Derived.Test.YthlbihbchobllaaGreatPh3
import Derived.Great.BuildSlice
set_option linter.unusedVariables false
set_option linter.unusedSimpArgs false
namespace Go.Proofs.YthlbihbchobllaaGreat
open Go Go.Eng Go.Proofs Go.NatM Go.RowKit

def sgn (neg : Bool) (n : Nat) : Int := if neg then -(n : Int) else n
def ival (x : IV) : Int := sgn x.neg (val x.m.l)
/-- an integer that reads -/
structure GI (H : Array Obj) (x : IV) : Prop where
  s : Sl u64v H H.size x.m.A x.m.n x.m.c x.m.l
  u : U64 x.m.l
/-- .. in least form: z -/
structure LI (H : Array Obj) (z : Int) (x : IV) : Prop where
  g : GI H x
  d : x.m.l = dig z.natAbs
  e : x.neg = decide (z < 0)
theorem GI.ext {w w' : World} {x : IV} (hE : Ext w w') (h : GI w.heap x) : GI w'.heap x := ⟨(h.s.ext hE).size, h.u⟩
theorem LI.ext {w w' : World} {x : IV} {z : Int} (hE : Ext w w') (h : LI w.heap z x) : LI w'.heap z x := ⟨h.g.ext hE, h.d, h.e⟩
theorem LI.updV {w w' : World} {x : IV} {z : Int} {b : Nat} {t : TypeId} {cs : List Value} (hu : Upd b w w') (hV : Vr w.heap b t cs) (hc : cs.all noU64 = true) (h : LI w.heap z x) : LI w'.heap z x := ⟨⟨(sl_updV hu hV hc h.g.s).size, h.g.u⟩, h.d, h.e⟩
theorem LI.val {H : Array Obj} {z : Int} {x : IV} (h : LI H z x) : ival x = z := by
  unfold ival sgn
  rw [h.d, h.e, val_dig]
  by_cases hz : z < 0
  · simp only [hz, decide_true, if_true]; omega
  · simp only [hz, decide_false, Bool.false_eq_true, if_false]; omega
theorem sgn_abs (neg : Bool) (n : Nat) : (sgn neg n).natAbs = n := by unfold sgn; split <;> omega
theorem dig_pos_len {n : Nat} : 0 < (dig n).length ↔ n ≠ 0 := by
  constructor
  · rintro h rfl; rw [dig_zero] at h; simp at h
  · intro h; rw [dig_pos h]; simp
theorem li_mk {H : Array Obj} {neg : Bool} {N n c : Nat} {A : Option Addr} (hs : Sl u64v H H.size A n c (dig N)) : LI H (sgn neg N) ⟨neg && decide (0 < n), ⟨A, n, c, dig N⟩⟩ := by
  refine ⟨⟨hs, U64_dig _⟩, by rw [sgn_abs], ?_⟩
  have hl := hs.len
  have h0 := dig_pos_len (n := N)
  show (neg && decide (0 < n)) = decide (sgn neg N < 0)
  unfold sgn
  cases neg
  · simp
  · simp only [Bool.true_and, if_true]
    congr 1
    apply propext
    constructor
    · intro h; have := h0.1 (by omega); omega
    · intro h; have := h0.2 (by omega); omega
/-- a new integer, z, of at most K words -/
def RetZ (w : World) (z : Int) (K : Nat) (e : Ending) (w' : World) : Prop := ∃ x : IV, e = .returned (.agg (ivc x).toArray) ∧ LI w'.heap z x ∧ Ext w w' ∧ x.m.n ≤ K
theorem of_ok (w : World) (neg : Bool) (A : Option Addr) (n c N : Nat) (hs : Sl u64v w.heap w.heap.size A n c (dig N)) : Cl Tryz.prog 53 #[.bool neg, .slice A n c] w (fun e w' => e = .returned (.agg (ivc ⟨neg && decide (0 < n), ⟨A, n, c, dig N⟩⟩).toArray) ∧ LI w'.heap (sgn neg N) ⟨neg && decide (0 < n), ⟨A, n, c, dig N⟩⟩ ∧ Ext w w') := by
  have hsz0 := hs.len
  cases neg
  · refine enter Tryz.func53 rfl rfl rfl ?_
    repeat' (first | refine TL.ev (ev_simple rfl) rfl ?_ | refine TL.gskip rfl rfl rfl rfl ?_ | (refine TL.alloc rfl (fun wa ba eba hVa hEa hza => ?_); have hla := box_lo (w0 := w) (by repeat (first | exact Ext.refl _ | (refine Ext.trans ?_ (by assumption)) | (apply ext_upd; assumption; rotate_left; omega))) eba) | (refine TL.storeVX rfl rfl rfl rfl (by refine ⟨?_, ?_⟩; (focus (repeat (first | assumption | (apply Vr.ext; assumption) | (apply Vr.updX; assumption; rotate_left; omega)))); rfl) (fun ws hVs hUs hzs => ?_)) | (refine TL.ev (ev_buildX rfl rfl) rfl ?_) | refine T.seq ?_ | refine T.region ?_ | refine TL.nil ?_ | refine T.ret ?_ | refine G.next ?_)
    have hE : Ext w ws := (by repeat (first | exact Ext.refl _ | (refine Ext.trans ?_ (by assumption)) | (apply ext_upd; assumption; rotate_left; omega)))
    exact G.retC1 rfl rfl (held_agg hVs rfl) ⟨rfl, li_mk (neg := false) (hs.ext hE).size, hE⟩
  · rcases Nat.eq_zero_or_pos n with h0 | h0
    · refine enter Tryz.func53 rfl rfl rfl ?_
      repeat' (first | refine TL.ev (ev_simple rfl) rfl ?_ | refine TL.grun rfl rfl rfl ?_ | refine TL.ev (ev_len rfl) rfl ?_ | (refine TL.cmpG rfl rfl rfl rfl (fun hc => ?_) (fun hc => ?_) <;> try (exfalso; omega)) | (refine TL.alloc rfl (fun wa ba eba hVa hEa hza => ?_); have hla := box_lo (w0 := w) (by repeat (first | exact Ext.refl _ | (refine Ext.trans ?_ (by assumption)) | (apply ext_upd; assumption; rotate_left; omega))) eba) | (refine TL.storeVX rfl rfl rfl rfl (by refine ⟨?_, ?_⟩; (focus (repeat (first | assumption | (apply Vr.ext; assumption) | (apply Vr.updX; assumption; rotate_left; omega)))); rfl) (fun ws hVs hUs hzs => ?_)) | (refine TL.ev (ev_buildX rfl rfl) rfl ?_) | refine T.seq ?_ | refine T.region ?_ | refine TL.nil ?_ | refine T.ret ?_ | refine G.next ?_)
      have hE : Ext w ws := (by repeat (first | exact Ext.refl _ | (refine Ext.trans ?_ (by assumption)) | (apply ext_upd; assumption; rotate_left; omega)))
      have e := li_mk (neg := true) (hs.ext hE).size
      have e2 : (true && decide (0 < n)) = false := by simp; omega
      rw [e2] at e ⊢
      exact G.retC1 rfl rfl (held_agg hVs rfl) ⟨rfl, e, hE⟩
    · refine enter Tryz.func53 rfl rfl rfl ?_
      repeat' (first | refine TL.ev (ev_simple rfl) rfl ?_ | refine TL.grun rfl rfl rfl ?_ | refine TL.ev (ev_len rfl) rfl ?_ | (refine TL.cmpG rfl rfl rfl rfl (fun hc => ?_) (fun hc => ?_) <;> try (exfalso; omega)) | (refine TL.alloc rfl (fun wa ba eba hVa hEa hza => ?_); have hla := box_lo (w0 := w) (by repeat (first | exact Ext.refl _ | (refine Ext.trans ?_ (by assumption)) | (apply ext_upd; assumption; rotate_left; omega))) eba) | (refine TL.storeVX rfl rfl rfl rfl (by refine ⟨?_, ?_⟩; (focus (repeat (first | assumption | (apply Vr.ext; assumption) | (apply Vr.updX; assumption; rotate_left; omega)))); rfl) (fun ws hVs hUs hzs => ?_)) | (refine TL.ev (ev_buildX rfl rfl) rfl ?_) | refine T.seq ?_ | refine T.region ?_ | refine TL.nil ?_ | refine T.ret ?_ | refine G.next ?_)
      have hE : Ext w ws := (by repeat (first | exact Ext.refl _ | (refine Ext.trans ?_ (by assumption)) | (apply ext_upd; assumption; rotate_left; omega)))
      have e := li_mk (neg := true) (hs.ext hE).size
      have e2 : (true && decide (0 < n)) = true := by simp; omega
      rw [e2] at e ⊢
      exact G.retC1 rfl rfl (held_agg hVs rfl) ⟨rfl, e, hE⟩
theorem cmp_eqX (H : Array Obj) (B B' : Nat) (A A' : Option Addr) (n c n' c' : Nat) (l l' : List Nat) (hs : Sl u64v H B A n c l) (hs' : Sl u64v H B' A' n' c' l') (hu : U64 l) (hu' : U64 l') (hn : n ≤ 35184372088832) (hn' : n' ≤ 35184372088832) {q : Int} (hq : cmp3 (val l) (val l') = q) :
    Pure Tryz.prog 51 #[.slice A n c, .slice A' n' c'] H (.int .i64 q) := by rw [← hq]; exact cmp_ok H B B' A A' n c n' c' l l' hs hs' hu hu' hn hn'
theorem zleast_ok (w : World) (x : IV) (g : GI w.heap x) (hn : x.m.n ≤ 35184372088832) : Cl Tryz.prog 45 #[.agg (ivc x).toArray] w (RetZ w (ival x) x.m.n) := by
  have hs := g.s
  have hu := g.u
  refine enter Tryz.func45 rfl rfl rfl ?_
  repeat' (first | (refine TL.call rfl rfl ?_; first | (refine (least_ok _ _ _ _ _ _ (by first | ((repeat (first | assumption | (apply Sl.ext; assumption) | (apply Sm.ext; assumption) | (apply Sl.upd; assumption) | (apply Sm.upd; assumption) | omega)); done) | ((repeat (first | assumption | (apply Sl.ext; assumption) | (apply Sm.ext; assumption) | (apply sl_updV; assumption; (focus (repeat (first | assumption | (apply Vr.ext; assumption) | (apply Vr.updX; assumption; rotate_left; omega)))); rfl))); done)) hu hn).mono ?_; rintro _ wl ⟨Al, nl, cl, rfl, hOl, hEl, hKl⟩; refine Back.mk ?_; have hSl := hOl.sl (Nat.le_refl _); have hzl := hEl.size) | (refine (of_ok _ _ _ _ _ _ hSl).mono ?_; rintro _ wo ⟨rfl, hLo, hEo⟩; refine Back.mk ?_; have hzo := hEo.size)) | refine T.regionX 1 6 (.s 0 (.s 1 (.s 2 (.s 3 (.e 4 (.e 5 (.e 6 .nil))))))) mixed (by kernel_rfl) (fun wr hzr hEr => ?_) | (refine TL.boxA rfl rfl (fun wb bb ebb hVb hEb hzb => ?_); have hlb := box_lo (w0 := w) (by repeat (first | exact Ext.refl _ | (refine Ext.trans ?_ (by assumption)) | (apply ext_upd; assumption; rotate_left; omega))) ebb) | (refine TL.alloc rfl (fun wa ba eba hVa hEa hza => ?_); have hla := box_lo (w0 := w) (by repeat (first | exact Ext.refl _ | (refine Ext.trans ?_ (by assumption)) | (apply ext_upd; assumption; rotate_left; omega))) eba) | (refine TF.s rfl (fun _ _ => ev_fieldAddr rfl) rfl ?_) | (refine TF.s rfl (fun _ hh => ev_loadVX rfl (by refine ⟨Vr.ext hh ?_, ?_⟩; (focus (repeat (first | assumption | (apply Vr.ext; assumption) | (apply Vr.updX; assumption; rotate_left; omega)))); rfl)) rfl ?_) | (refine TL.storeVX rfl rfl rfl rfl (by refine ⟨?_, ?_⟩; (focus (repeat (first | assumption | (apply Vr.ext; assumption) | (apply Vr.updX; assumption; rotate_left; omega)))); rfl) (fun ws hVs hUs hzs => ?_)) | refine TF.nil ?_ | refine TF.e rfl ?_ | refine G.treeEnd rfl ?_ | refine G.tree rfl (by repeat (first | exact Ext.refl _ | (refine Ext.trans ?_ (by assumption)) | (apply ext_upd; assumption; rotate_left; omega))) ?_ | refine T.seq ?_ | refine T.region ?_ | refine TL.nil ?_ | refine T.ret ?_ | refine G.next ?_ | refine G.only ?_)
  exact G.retC1 rfl rfl (held_agg hVs rfl) ⟨_, rfl, LI.updV hUs (by repeat (first | assumption | (apply Vr.ext; assumption) | (apply Vr.updX; assumption; rotate_left; omega))) rfl hLo, (by repeat (first | exact Ext.refl _ | (refine Ext.trans ?_ (by assumption)) | (apply ext_upd; assumption; rotate_left; omega))), hKl⟩
theorem sgn_mul (a b : Bool) (m n : Nat) : sgn (a != b) (m * n) = sgn a m * sgn b n := by
  unfold sgn
  cases a <;> cases b <;> simp [Int.neg_mul, Int.mul_neg, Int.natCast_mul]
theorem zmul_ok (w : World) (x y : IV) (gx : GI w.heap x) (gy : GI w.heap y) (hx : x.m.n ≤ 8796093022208) (hy : y.m.n ≤ 8796093022208) : Cl Tryz.prog 62 #[.agg (ivc x).toArray, .agg (ivc y).toArray] w (RetZ w (ival x * ival y) (x.m.n + y.m.n)) := by
  have hs := gx.s
  have hu := gx.u
  have hs' := gy.s
  have hu' := gy.u
  unfold ival
  rw [← sgn_mul]
  refine enter Tryz.func62 rfl rfl rfl ?_
  repeat' (first | (refine TL.call rfl rfl ?_; first | (refine (mul_ok _ _ _ _ _ _ _ _ _ _ _ (by first | ((repeat (first | assumption | (apply Sl.ext; assumption) | (apply Sm.ext; assumption) | (apply Sl.upd; assumption) | (apply Sm.upd; assumption) | omega)); done) | ((repeat (first | assumption | (apply Sl.ext; assumption) | (apply Sm.ext; assumption) | (apply sl_updV; assumption; (focus (repeat (first | assumption | (apply Vr.ext; assumption) | (apply Vr.updX; assumption; rotate_left; omega)))); rfl))); done)) (by first | ((repeat (first | assumption | (apply Sl.ext; assumption) | (apply Sm.ext; assumption) | (apply Sl.upd; assumption) | (apply Sm.upd; assumption) | omega)); done) | ((repeat (first | assumption | (apply Sl.ext; assumption) | (apply Sm.ext; assumption) | (apply sl_updV; assumption; (focus (repeat (first | assumption | (apply Vr.ext; assumption) | (apply Vr.updX; assumption; rotate_left; omega)))); rfl))); done)) hu hu' (by omega)).mono ?_; rintro _ wl ⟨Al, nl, cl, rfl, hOl, hEl, hKl⟩; refine Back.mk ?_; have hSl := hOl.sl (Nat.le_refl _); have hzl := hEl.size) | (refine (of_ok _ _ _ _ _ _ hSl).mono ?_; rintro _ wo ⟨rfl, hLo, hEo⟩; refine Back.mk ?_; have hzo := hEo.size)) | refine T.regionX 1 11 (.s 0 (.s 1 (.s 2 (.s 3 (.s 4 (.s 5 (.s 6 (.s 7 (.s 8 (.e 9 (.e 10 (.e 11 .nil)))))))))))) mixed (by kernel_rfl) (fun wr hzr hEr => ?_) | (refine TL.boxA rfl rfl (fun wb bb ebb hVb hEb hzb => ?_); have hlb := box_lo (w0 := w) (by repeat (first | exact Ext.refl _ | (refine Ext.trans ?_ (by assumption)) | (apply ext_upd; assumption; rotate_left; omega))) ebb) | (refine TL.alloc rfl (fun wa ba eba hVa hEa hza => ?_); have hla := box_lo (w0 := w) (by repeat (first | exact Ext.refl _ | (refine Ext.trans ?_ (by assumption)) | (apply ext_upd; assumption; rotate_left; omega))) eba) | (refine TF.s rfl (fun _ _ => ev_fieldAddr rfl) rfl ?_) | (refine TF.s rfl (fun _ hh => ev_loadVX rfl (by refine ⟨Vr.ext hh ?_, ?_⟩; (focus (repeat (first | assumption | (apply Vr.ext; assumption) | (apply Vr.updX; assumption; rotate_left; omega)))); rfl)) rfl ?_) | (refine TL.storeVX rfl rfl rfl rfl (by refine ⟨?_, ?_⟩; (focus (repeat (first | assumption | (apply Vr.ext; assumption) | (apply Vr.updX; assumption; rotate_left; omega)))); rfl) (fun ws hVs hUs hzs => ?_)) | (refine TF.s rfl (fun _ _ => ev_neqB (r := x.neg != y.neg) rfl rfl rfl) rfl ?_) | refine TF.nil ?_ | refine TF.e rfl ?_ | refine G.treeEnd rfl ?_ | refine G.tree rfl (by repeat (first | exact Ext.refl _ | (refine Ext.trans ?_ (by assumption)) | (apply ext_upd; assumption; rotate_left; omega))) ?_ | refine T.seq ?_ | refine T.region ?_ | refine TL.nil ?_ | refine T.ret ?_ | refine G.next ?_ | refine G.only ?_)
  exact G.retC1 rfl rfl (held_agg hVs rfl) ⟨_, rfl, LI.updV hUs (by repeat (first | assumption | (apply Vr.ext; assumption) | (apply Vr.updX; assumption; rotate_left; omega))) rfl hLo, (by repeat (first | exact Ext.refl _ | (refine Ext.trans ?_ (by assumption)) | (apply ext_upd; assumption; rotate_left; omega))), hKl⟩
theorem zadd_same (w : World) (x y : IV) (gx : GI w.heap x) (gy : GI w.heap y) (hx : x.m.n ≤ 17592186044416) (hy : y.m.n ≤ 17592186044416) (hxy : x.neg = y.neg) : Cl Tryz.prog 67 #[.agg (ivc x).toArray, .agg (ivc y).toArray] w (RetZ w (ival x + ival y) (max x.m.n y.m.n + 1)) := by
  have hs := gx.s
  have hu := gx.u
  have hs' := gy.s
  have hu' := gy.u
  have e : ival x + ival y = sgn x.neg (val x.m.l + val y.m.l) := by unfold ival sgn; rw [← hxy]; split <;> omega
  rw [e]
  refine enter Tryz.func67 rfl rfl rfl ?_
  repeat' (first | (refine TL.call rfl rfl ?_; first | (refine (add_ok _ _ _ _ _ _ _ _ _ _ _ (by first | ((repeat (first | assumption | (apply Sl.ext; assumption) | (apply Sm.ext; assumption) | (apply Sl.upd; assumption) | (apply Sm.upd; assumption) | omega)); done) | ((repeat (first | assumption | (apply Sl.ext; assumption) | (apply Sm.ext; assumption) | (apply sl_updV; assumption; (focus (repeat (first | assumption | (apply Vr.ext; assumption) | (apply Vr.updX; assumption; rotate_left; omega)))); rfl))); done)) (by first | ((repeat (first | assumption | (apply Sl.ext; assumption) | (apply Sm.ext; assumption) | (apply Sl.upd; assumption) | (apply Sm.upd; assumption) | omega)); done) | ((repeat (first | assumption | (apply Sl.ext; assumption) | (apply Sm.ext; assumption) | (apply sl_updV; assumption; (focus (repeat (first | assumption | (apply Vr.ext; assumption) | (apply Vr.updX; assumption; rotate_left; omega)))); rfl))); done)) hu hu' (by omega) (by omega)).mono ?_; rintro _ wl ⟨Al, nl, cl, rfl, hOl, hEl, hKl⟩; refine Back.mk ?_; have hSl := hOl.sl (Nat.le_refl _); have hzl := hEl.size) | (refine (of_ok _ _ _ _ _ _ hSl).mono ?_; rintro _ wo ⟨rfl, hLo, hEo⟩; refine Back.mk ?_; have hzo := hEo.size)) | refine T.regionX 2 8 (.s 0 (.s 1 (.s 2 (.s 3 (.s 4 (.s 5 (.e 6 (.e 7 (.e 8 .nil))))))))) mixed (by kernel_rfl) (fun wr hzr hEr => ?_) | (refine TL.boxA rfl rfl (fun wb bb ebb hVb hEb hzb => ?_); have hlb := box_lo (w0 := w) (by repeat (first | exact Ext.refl _ | (refine Ext.trans ?_ (by assumption)) | (apply ext_upd; assumption; rotate_left; omega))) ebb) | (refine TL.alloc rfl (fun wa ba eba hVa hEa hza => ?_); have hla := box_lo (w0 := w) (by repeat (first | exact Ext.refl _ | (refine Ext.trans ?_ (by assumption)) | (apply ext_upd; assumption; rotate_left; omega))) eba) | (refine TL.ev (ev_fieldAddr rfl) rfl ?_) | (refine TF.s rfl (fun _ _ => ev_fieldAddr rfl) rfl ?_) | (refine TL.ev (ev_loadVX rfl (by refine ⟨?_, ?_⟩; (focus (repeat (first | assumption | (apply Vr.ext; assumption) | (apply Vr.updX; assumption; rotate_left; omega)))); rfl)) rfl ?_) | (refine TF.s rfl (fun _ hh => ev_loadVX rfl (by refine ⟨Vr.ext hh ?_, ?_⟩; (focus (repeat (first | assumption | (apply Vr.ext; assumption) | (apply Vr.updX; assumption; rotate_left; omega)))); rfl)) rfl ?_) | (refine TL.storeVX rfl rfl rfl rfl (by refine ⟨?_, ?_⟩; (focus (repeat (first | assumption | (apply Vr.ext; assumption) | (apply Vr.updX; assumption; rotate_left; omega)))); rfl) (fun ws hVs hUs hzs => ?_)) | (refine TL.ev (ev_eqlB (r := true) rfl rfl (by rw [hxy]; exact beq_self_eq_true _)) rfl ?_) | refine TF.nil ?_ | refine TF.e rfl ?_ | refine G.treeEnd rfl ?_ | refine G.tree rfl (by repeat (first | exact Ext.refl _ | (refine Ext.trans ?_ (by assumption)) | (apply ext_upd; assumption; rotate_left; omega))) ?_ | refine T.seq ?_ | refine T.region ?_ | refine TL.nil ?_ | refine T.cond_t rfl ?_ | refine T.ret ?_ | refine G.next ?_ | refine G.thenR ?_ | refine G.only ?_)
  exact G.retC1 rfl rfl (held_agg hVs rfl) ⟨_, rfl, LI.updV hUs (by repeat (first | assumption | (apply Vr.ext; assumption) | (apply Vr.updX; assumption; rotate_left; omega))) rfl hLo, (by repeat (first | exact Ext.refl _ | (refine Ext.trans ?_ (by assumption)) | (apply ext_upd; assumption; rotate_left; omega))), hKl⟩
theorem zadd_lt (w : World) (x y : IV) (gx : GI w.heap x) (gy : GI w.heap y) (hx : x.m.n ≤ 17592186044416) (hy : y.m.n ≤ 17592186044416) (hxy : (x.neg == y.neg) = false) {q : Int} (hq : cmp3 (val x.m.l) (val y.m.l) = q) (hq0 : q < 0) (hle : val x.m.l ≤ val y.m.l) : Cl Tryz.prog 67 #[.agg (ivc x).toArray, .agg (ivc y).toArray] w (RetZ w (sgn y.neg (val y.m.l - val x.m.l)) (max x.m.n y.m.n + 1)) := by
  have hs := gx.s
  have hu := gx.u
  have hs' := gy.s
  have hu' := gy.u
  refine enter Tryz.func67 rfl rfl rfl ?_
  repeat' (first | refine TL.ev (ev_simple rfl) rfl ?_ | (refine TL.call rfl rfl ?_; first | (refine (cmp_eqX _ _ _ _ _ _ _ _ _ _ _ (by first | ((repeat (first | assumption | (apply Sl.ext; assumption) | (apply Sm.ext; assumption) | (apply Sl.upd; assumption) | (apply Sm.upd; assumption) | omega)); done) | ((repeat (first | assumption | (apply Sl.ext; assumption) | (apply Sm.ext; assumption) | (apply sl_updV; assumption; (focus (repeat (first | assumption | (apply Vr.ext; assumption) | (apply Vr.updX; assumption; rotate_left; omega)))); rfl))); done)) (by first | ((repeat (first | assumption | (apply Sl.ext; assumption) | (apply Sm.ext; assumption) | (apply Sl.upd; assumption) | (apply Sm.upd; assumption) | omega)); done) | ((repeat (first | assumption | (apply Sl.ext; assumption) | (apply Sm.ext; assumption) | (apply sl_updV; assumption; (focus (repeat (first | assumption | (apply Vr.ext; assumption) | (apply Vr.updX; assumption; rotate_left; omega)))); rfl))); done)) hu hu' (by omega) (by omega) hq).clX.mono ?_; rintro _ wc ⟨rfl, hzc, hEc⟩; refine Back.mk ?_) | (refine (sub_ok _ _ _ _ _ _ _ _ _ _ _ (by first | ((repeat (first | assumption | (apply Sl.ext; assumption) | (apply Sm.ext; assumption) | (apply Sl.upd; assumption) | (apply Sm.upd; assumption) | omega)); done) | ((repeat (first | assumption | (apply Sl.ext; assumption) | (apply Sm.ext; assumption) | (apply sl_updV; assumption; (focus (repeat (first | assumption | (apply Vr.ext; assumption) | (apply Vr.updX; assumption; rotate_left; omega)))); rfl))); done)) (by first | ((repeat (first | assumption | (apply Sl.ext; assumption) | (apply Sm.ext; assumption) | (apply Sl.upd; assumption) | (apply Sm.upd; assumption) | omega)); done) | ((repeat (first | assumption | (apply Sl.ext; assumption) | (apply Sm.ext; assumption) | (apply sl_updV; assumption; (focus (repeat (first | assumption | (apply Vr.ext; assumption) | (apply Vr.updX; assumption; rotate_left; omega)))); rfl))); done)) hu' hu (by omega) (by omega) hle).mono ?_; rintro _ wl ⟨Al, nl, cl, rfl, hOl, hEl, hKl⟩; refine Back.mk ?_; have hSl := hOl.sl (Nat.le_refl _); have hzl := hEl.size) | (refine (of_ok _ _ _ _ _ _ hSl).mono ?_; rintro _ wo ⟨rfl, hLo, hEo⟩; refine Back.mk ?_; have hzo := hEo.size)) | (refine TL.cmpG rfl rfl rfl rfl (fun hc => ?_) (fun hc => ?_) <;> try (exfalso; omega)) | (refine TL.boxA rfl rfl (fun wb bb ebb hVb hEb hzb => ?_); have hlb := box_lo (w0 := w) (by repeat (first | exact Ext.refl _ | (refine Ext.trans ?_ (by assumption)) | (apply ext_upd; assumption; rotate_left; omega))) ebb) | (refine TL.alloc rfl (fun wa ba eba hVa hEa hza => ?_); have hla := box_lo (w0 := w) (by repeat (first | exact Ext.refl _ | (refine Ext.trans ?_ (by assumption)) | (apply ext_upd; assumption; rotate_left; omega))) eba) | (refine TL.ev (ev_fieldAddr rfl) rfl ?_) | (refine TL.ev (ev_loadVX rfl (by refine ⟨?_, ?_⟩; (focus (repeat (first | assumption | (apply Vr.ext; assumption) | (apply Vr.updX; assumption; rotate_left; omega)))); rfl)) rfl ?_) | (refine TL.ev (ev_loadVAX rfl (by refine ⟨?_, ?_⟩; (focus (repeat (first | assumption | (apply Vr.ext; assumption) | (apply Vr.updX; assumption; rotate_left; omega)))); rfl)) rfl ?_) | (refine TL.storeVX rfl rfl rfl rfl (by refine ⟨?_, ?_⟩; (focus (repeat (first | assumption | (apply Vr.ext; assumption) | (apply Vr.updX; assumption; rotate_left; omega)))); rfl) (fun ws hVs hUs hzs => ?_)) | (refine TL.ev (ev_eqlB (r := false) rfl rfl hxy) rfl ?_) | refine T.seq ?_ | refine T.region ?_ | refine TL.nil ?_ | refine T.cond_t rfl ?_ | refine T.cond_f rfl ?_ | refine T.ret ?_ | refine T.skip ?_ | refine G.next ?_)
  exact G.retC1 rfl rfl (held_agg hVs rfl) ⟨_, rfl, LI.updV hUs (by repeat (first | assumption | (apply Vr.ext; assumption) | (apply Vr.updX; assumption; rotate_left; omega))) rfl hLo, (by repeat (first | exact Ext.refl _ | (refine Ext.trans ?_ (by assumption)) | (apply ext_upd; assumption; rotate_left; omega))), by exact Nat.le_trans hKl (by omega)⟩
theorem zadd_ge (w : World) (x y : IV) (gx : GI w.heap x) (gy : GI w.heap y) (hx : x.m.n ≤ 17592186044416) (hy : y.m.n ≤ 17592186044416) (hxy : (x.neg == y.neg) = false) {q : Int} (hq : cmp3 (val x.m.l) (val y.m.l) = q) (hq0 : ¬ q < 0) (hle : val y.m.l ≤ val x.m.l) : Cl Tryz.prog 67 #[.agg (ivc x).toArray, .agg (ivc y).toArray] w (RetZ w (sgn x.neg (val x.m.l - val y.m.l)) (max x.m.n y.m.n + 1)) := by
  have hs := gx.s
  have hu := gx.u
  have hs' := gy.s
  have hu' := gy.u
  refine enter Tryz.func67 rfl rfl rfl ?_
  repeat' (first | refine TL.ev (ev_simple rfl) rfl ?_ | (refine TL.call rfl rfl ?_; first | (refine (cmp_eqX _ _ _ _ _ _ _ _ _ _ _ (by first | ((repeat (first | assumption | (apply Sl.ext; assumption) | (apply Sm.ext; assumption) | (apply Sl.upd; assumption) | (apply Sm.upd; assumption) | omega)); done) | ((repeat (first | assumption | (apply Sl.ext; assumption) | (apply Sm.ext; assumption) | (apply sl_updV; assumption; (focus (repeat (first | assumption | (apply Vr.ext; assumption) | (apply Vr.updX; assumption; rotate_left; omega)))); rfl))); done)) (by first | ((repeat (first | assumption | (apply Sl.ext; assumption) | (apply Sm.ext; assumption) | (apply Sl.upd; assumption) | (apply Sm.upd; assumption) | omega)); done) | ((repeat (first | assumption | (apply Sl.ext; assumption) | (apply Sm.ext; assumption) | (apply sl_updV; assumption; (focus (repeat (first | assumption | (apply Vr.ext; assumption) | (apply Vr.updX; assumption; rotate_left; omega)))); rfl))); done)) hu hu' (by omega) (by omega) hq).clX.mono ?_; rintro _ wc ⟨rfl, hzc, hEc⟩; refine Back.mk ?_) | (refine (sub_ok _ _ _ _ _ _ _ _ _ _ _ (by first | ((repeat (first | assumption | (apply Sl.ext; assumption) | (apply Sm.ext; assumption) | (apply Sl.upd; assumption) | (apply Sm.upd; assumption) | omega)); done) | ((repeat (first | assumption | (apply Sl.ext; assumption) | (apply Sm.ext; assumption) | (apply sl_updV; assumption; (focus (repeat (first | assumption | (apply Vr.ext; assumption) | (apply Vr.updX; assumption; rotate_left; omega)))); rfl))); done)) (by first | ((repeat (first | assumption | (apply Sl.ext; assumption) | (apply Sm.ext; assumption) | (apply Sl.upd; assumption) | (apply Sm.upd; assumption) | omega)); done) | ((repeat (first | assumption | (apply Sl.ext; assumption) | (apply Sm.ext; assumption) | (apply sl_updV; assumption; (focus (repeat (first | assumption | (apply Vr.ext; assumption) | (apply Vr.updX; assumption; rotate_left; omega)))); rfl))); done)) hu hu' (by omega) (by omega) hle).mono ?_; rintro _ wl ⟨Al, nl, cl, rfl, hOl, hEl, hKl⟩; refine Back.mk ?_; have hSl := hOl.sl (Nat.le_refl _); have hzl := hEl.size) | (refine (of_ok _ _ _ _ _ _ hSl).mono ?_; rintro _ wo ⟨rfl, hLo, hEo⟩; refine Back.mk ?_; have hzo := hEo.size)) | (refine TL.cmpG rfl rfl rfl rfl (fun hc => ?_) (fun hc => ?_) <;> try (exfalso; omega)) | (refine TL.boxA rfl rfl (fun wb bb ebb hVb hEb hzb => ?_); have hlb := box_lo (w0 := w) (by repeat (first | exact Ext.refl _ | (refine Ext.trans ?_ (by assumption)) | (apply ext_upd; assumption; rotate_left; omega))) ebb) | (refine TL.alloc rfl (fun wa ba eba hVa hEa hza => ?_); have hla := box_lo (w0 := w) (by repeat (first | exact Ext.refl _ | (refine Ext.trans ?_ (by assumption)) | (apply ext_upd; assumption; rotate_left; omega))) eba) | (refine TL.ev (ev_fieldAddr rfl) rfl ?_) | (refine TL.ev (ev_loadVX rfl (by refine ⟨?_, ?_⟩; (focus (repeat (first | assumption | (apply Vr.ext; assumption) | (apply Vr.updX; assumption; rotate_left; omega)))); rfl)) rfl ?_) | (refine TL.storeVX rfl rfl rfl rfl (by refine ⟨?_, ?_⟩; (focus (repeat (first | assumption | (apply Vr.ext; assumption) | (apply Vr.updX; assumption; rotate_left; omega)))); rfl) (fun ws hVs hUs hzs => ?_)) | (refine TL.ev (ev_eqlB (r := false) rfl rfl hxy) rfl ?_) | refine T.seq ?_ | refine T.region ?_ | refine TL.nil ?_ | refine T.cond_f rfl ?_ | refine T.ret ?_ | refine T.skip ?_ | refine G.next ?_)
  exact G.retC1 rfl rfl (held_agg hVs rfl) ⟨_, rfl, LI.updV hUs (by repeat (first | assumption | (apply Vr.ext; assumption) | (apply Vr.updX; assumption; rotate_left; omega))) rfl hLo, (by repeat (first | exact Ext.refl _ | (refine Ext.trans ?_ (by assumption)) | (apply ext_upd; assumption; rotate_left; omega))), by exact Nat.le_trans hKl (by omega)⟩
theorem zadd_ok (w : World) (x y : IV) (gx : GI w.heap x) (gy : GI w.heap y) (hx : x.m.n ≤ 17592186044416) (hy : y.m.n ≤ 17592186044416) : Cl Tryz.prog 67 #[.agg (ivc x).toArray, .agg (ivc y).toArray] w (RetZ w (ival x + ival y) (max x.m.n y.m.n + 1)) := by
  by_cases hxy : x.neg = y.neg
  · exact zadd_same w x y gx gy hx hy hxy
  · have hb : (x.neg == y.neg) = false := by simpa using hxy
    rcases Nat.lt_or_ge (val x.m.l) (val y.m.l) with h | h
    · have e : ival x + ival y = sgn y.neg (val y.m.l - val x.m.l) := by unfold ival sgn; cases hx1 : x.neg <;> cases hy1 : y.neg <;> simp_all <;> omega
      rw [e]
      exact zadd_lt w x y gx gy hx hy hb rfl (by rw [cmp3, if_pos h]; omega) (by omega)
    · have e : ival x + ival y = sgn x.neg (val x.m.l - val y.m.l) := by unfold ival sgn; cases hx1 : x.neg <;> cases hy1 : y.neg <;> simp_all <;> omega
      rw [e]
      exact zadd_ge w x y gx gy hx hy hb rfl (by rw [cmp3, if_neg (by omega)]; split <;> omega) h
theorem zmulAdd_ok (w : World) (x y z : IV) (gx : GI w.heap x) (gy : GI w.heap y) (gz : GI w.heap z) (hx : x.m.n ≤ 8796093022208) (hy : y.m.n ≤ 8796093022208) (hz : z.m.n ≤ 17592186044416) : Cl Tryz.prog 49 #[.agg (ivc x).toArray, .agg (ivc y).toArray, .agg (ivc z).toArray] w (RetZ w (ival x * ival y + ival z) (max (x.m.n + y.m.n) z.m.n + 1)) := by
  refine enter Tryz.func49 rfl rfl rfl ?_
  repeat' (first | (refine TL.call rfl rfl ?_; first | (refine (zmul_ok _ x y (by repeat (first | assumption | (apply GI.ext; assumption))) (by repeat (first | assumption | (apply GI.ext; assumption))) hx hy).mono ?_; rintro _ wm ⟨p, rfl, hLp, hEm, hKp⟩; refine Back.mk ?_; have hzm := hEm.size) | (refine (zadd_ok _ p z hLp.g (by repeat (first | assumption | (apply GI.ext; assumption))) (by omega) hz).mono ?_; rintro _ wo ⟨s, rfl, hLs, hEo, hKs⟩; refine Back.mk ?_; have hzo := hEo.size; rw [hLp.val] at hLs)) | refine T.regionX 1 5 (.s 0 (.s 1 (.s 3 (.e 2 (.e 4 (.e 5 .nil)))))) mixed (by kernel_rfl) (fun wr hzr hEr => ?_) | (refine TL.boxA rfl rfl (fun wb bb ebb hVb hEb hzb => ?_); have hlb := box_lo (w0 := w) (by repeat (first | exact Ext.refl _ | (refine Ext.trans ?_ (by assumption)) | (apply ext_upd; assumption; rotate_left; omega))) ebb) | (refine TL.alloc rfl (fun wa ba eba hVa hEa hza => ?_); have hla := box_lo (w0 := w) (by repeat (first | exact Ext.refl _ | (refine Ext.trans ?_ (by assumption)) | (apply ext_upd; assumption; rotate_left; omega))) eba) | (refine TF.s rfl (fun _ hh => ev_loadVAX rfl (by refine ⟨Vr.ext hh ?_, ?_⟩; (focus (repeat (first | assumption | (apply Vr.ext; assumption) | (apply Vr.updX; assumption; rotate_left; omega)))); rfl)) rfl ?_) | (refine TL.storeVX rfl rfl rfl rfl (by refine ⟨?_, ?_⟩; (focus (repeat (first | assumption | (apply Vr.ext; assumption) | (apply Vr.updX; assumption; rotate_left; omega)))); rfl) (fun ws hVs hUs hzs => ?_)) | refine TF.nil ?_ | refine TF.e rfl ?_ | refine G.treeEnd rfl ?_ | refine G.tree rfl (by repeat (first | exact Ext.refl _ | (refine Ext.trans ?_ (by assumption)) | (apply ext_upd; assumption; rotate_left; omega))) ?_ | refine T.seq ?_ | refine T.region ?_ | refine TL.nil ?_ | refine T.ret ?_ | refine G.next ?_ | refine G.only ?_)
  exact G.retC1 rfl rfl (held_agg hVs rfl) ⟨s, rfl, LI.updV hUs (by repeat (first | assumption | (apply Vr.ext; assumption) | (apply Vr.updX; assumption; rotate_left; omega))) rfl hLs, (by repeat (first | exact Ext.refl _ | (refine Ext.trans ?_ (by assumption)) | (apply ext_upd; assumption; rotate_left; omega))), by omega⟩
end Go.Proofs.YthlbihbchobllaaGreat

namespace Go.Eng
open Go Go.RowKit

theorem flatMap_len {α : Type} {f : α → List Value} {k : Nat} {l : List α} (hw : ∀ x ∈ l, (f x).length = k) : (l.flatMap f).length = l.length * k := by
  induction l with
  | nil => simp
  | cons x l ih =>
    rw [List.flatMap_cons, List.length_append, hw x (List.mem_cons_self ..), ih (fun y hy => hw y (List.mem_cons_of_mem _ hy)), List.length_cons, Nat.add_mul]
    omega
theorem flatMap_get {α : Type} {f : α → List Value} {k : Nat} : ∀ {l : List α} (hw : ∀ x ∈ l, (f x).length = k) (j q : Nat) (x : α), l[j]? = some x → q < k → (l.flatMap f)[j * k + q]? = (f x)[q]?
  | [], hw, j, q, x, h, hq => by simp at h
  | y :: l, hw, 0, q, x, h, hq => by
    simp at h
    subst h
    rw [List.flatMap_cons, Nat.zero_mul, Nat.zero_add, List.getElem?_append_left (by rw [hw y (List.mem_cons_self ..)]; exact hq)]
  | y :: l, hw, j + 1, q, x, h, hq => by
    rw [List.getElem?_cons_succ] at h
    have hy := hw y (List.mem_cons_self ..)
    rw [List.flatMap_cons, List.getElem?_append_right (by rw [hy, Nat.add_mul]; omega), hy, show (j + 1) * k + q - k = j * k + q by rw [Nat.add_mul]; omega]
    exact flatMap_get (fun z hz => hw z (List.mem_cons_of_mem _ hz)) j q x h hq
/-- a slice at the head of a block known whole -/
theorem vr_sm {α : Type} {f : α → List Value} {k : Nat} {H : Array Obj} {b B n c : Nat} {t : TypeId} {l : List α} {zs : List Value} (hk : 0 < k) (hw : ∀ x ∈ l, (f x).length = k) (hV : Vr H b t (l.flatMap f ++ zs)) (hn : l.length = n) (hc : n ≤ c) (hb : b < B) : Sm k f H B (some ⟨b, 0, none⟩) n c l := by
  refine ⟨hn, hc, hk, hw, .inr ⟨b, 0, rfl, hb, fun j x hx q v hv => ?_⟩⟩
  have hq : q < k := by have := (List.getElem?_eq_some_iff.1 hv).1; rwa [hw x (List.mem_of_getElem? hx)] at this
  have hj := (List.getElem?_eq_some_iff.1 hx).1
  rw [Nat.zero_add, hV.cell, List.getElem?_append_left, flatMap_get hw j q x hx hq, hv]
  rw [flatMap_len hw]
  have : (j + 1) * k ≤ l.length * k := Nat.mul_le_mul_right _ hj
  rw [Nat.add_mul] at this
  omega
section
variable {P : Program} {N : Fm} {Q : Exit → Act → World → Prop} {σ : Store} {w : World} {ops : Array Oper} {d : Nat} {t : TypeId} {pos : String} {af : Array Edge} {rest : List Oper}
/-- a new block of structs -/
theorem TL.makeX {x y : Operand} {ty e : TypeId} [hT : USlice P ty e] {z : List Value} {sz b1 : Nat} [hS : USize P e (.agg z.toArray) sz b1] {k k' : IntKind} {z1 z2 : Int} {n c : Nat} [e1 : IsN z1 n] [e2 : IsN z2 c]
    (hx : look σ x = some (.int k z1)) (hy : look σ y = some (.int k' z2)) (hd : Nat.blt d N.n = true) (hn : n ≤ c) (hc : b1 * c ≤ 281474976710656 ∧ c ≤ 9223372036854775807) (hz : z.all noU64 = true) (hzl : Nat.beq z.length sz = true) (hz0 : Nat.blt 0 sz = true)
    (K : ∀ w' b zs, b = w.heap.size → zs.length = c * sz → zs.all noU64 = true → Vr w'.heap b e zs → Ext w w' → w'.heap.size = w.heap.size + 1 → TL P N .seq ops Q rest ((d, .slice (some ⟨b, 0, none⟩) n c) :: σ) w') :
    TL P N .seq ops Q (⟨some d, .makeSlice ty x y, t, pos, af, none⟩ :: rest) σ w := by
  obtain rfl := e1.out
  obtain rfl := e2.out
  obtain ⟨i, hi, hz0', hsz, hby⟩ := hS.info
  have hb : (i.bytes : Int) * (c : Int) ≤ 281474976710656 := by
    have h : ((i.bytes * c : Nat) : Int) ≤ 281474976710656 := by rw [hby]; omega
    rwa [Int.natCast_mul] at h
  have hr := fun (w : World) => run_make (P := P) w ty e i (.agg z.toArray) hT.out hi hz0' k k' (n : Int) (c : Int) (by omega) (by omega) hb (by omega)
  simp only [Int.toNat_natCast, hsz] at hr
  have hzl' := Nat.eq_of_beq_eq_true hzl
  have hsz0 : 0 < sz := by simpa [Nat.blt_eq] using hz0
  refine TL.op (w' := w.alloc (.cells (madeCells z.toArray (c * sz)) e)) (fun ρ hρ => ?_) hd (K _ _ (madeCells z.toArray (c * sz)).toList rfl (by simp [madeCells]) ?_ ?_ (ext_alloc _ _) (size_alloc _ _))
  · simp [execOp, hρ x _ hx, hρ y _ hy]
    have := hr w
    simp only [Value.cells] at this
    simp [this]
  · rw [List.all_eq_true]
    intro v hv
    simp only [madeCells, Array.toList_map, List.mem_map] at hv
    obtain ⟨q, _, rfl⟩ := hv
    have hlt : q % z.toArray.size < z.length := by simp only [List.size_toArray]; exact Nat.mod_lt _ (by omega)
    have hlt2 : q % z.length < z.length := by simpa using hlt
    have : z.toArray[q % z.toArray.size]! = z[q % z.toArray.size] := by simp [List.getElem?_eq_getElem hlt2]
    rw [this]
    exact List.all_eq_true.1 hz _ (List.getElem_mem hlt)
  · unfold Vr
    rw [heap_alloc]
/-- append of one struct in place -/
theorem TL.appendX {α : Type} {f : α → List Value} {x y : Operand} {ty e : TypeId} [hT : USlice P ty e] {z : Value} {k b1 : Nat} [hS : USize P e z k b1] (h1 : ∀ u, (f u).all (·.oneCell') = true) {b n c B c' : Nat} {A' : Option Addr} {l : List α} {u : α} {zs : List Value}
    (hx : look σ x = some (.slice (some ⟨b, 0, none⟩) n c)) (hy : look σ y = some (.slice A' 1 c')) (hd : Nat.blt d N.n = true) (hs : Sm k f w.heap B A' 1 c' [u]) (hV : Vr w.heap b e (l.flatMap f ++ zs)) (hw : ∀ x ∈ l, (f x).length = k) (hn : l.length = n) (hc : n + 1 ≤ c) (hzs : zs.length = (c - n) * k)
    (K : ∀ w', Vr w'.heap b e ((l ++ [u]).flatMap f ++ zs.drop k) → Upd b w w' → w'.heap.size = w.heap.size → TL P N .seq ops Q rest ((d, .slice (some ⟨b, 0, none⟩) (n + 1) c) :: σ) w') :
    TL P N .seq ops Q (⟨some d, .call { callee := .builtin .append, args := #[x, y], argTypes := #[ty, ty] }, t, pos, af, none⟩ :: rest) σ w := by
  obtain ⟨i, hi, hz0, hsz, hby⟩ := hS.info
  have hu := hs.wid u (by simp)
  have hl : (l.flatMap f).length = n * k := by rw [flatMap_len hw, hn]
  have hk := hs.pos
  have hck : k ≤ (c - n) * k := Nat.le_mul_of_pos_left _ (by omega)
  rcases hs.mem with h | ⟨b', o, rfl, _, hm⟩
  · omega
  have hnews : ∀ j v, (f u)[j]? = some v → w.cell? ((⟨b', o, none⟩ : Addr).add j) = some v := fun j v hv => by
    have := hm 0 u rfl j v hv
    rw [Nat.zero_mul, Nat.zero_add] at this
    rw [add_mk, cell_of_hcell]; exact this
  have hr := run_append_room (P := P) w ty t e i hT.out hi b n c (l.flatMap f ++ zs).toArray hV ⟨b', o, none⟩ 1 c' (f u) (by rw [hu, hsz, Nat.one_mul]) hnews (fun v hv => List.all_eq_true.1 (h1 u) v hv) hc (by simp [hl, hsz, hu, hzs]; exact hck)
  refine TL.op (w' := w.setRow b ((l.flatMap f) ++ f u ++ zs.drop k).toArray) (fun ρ hρ => ?_) hd (K _ ?_ (upd_setRow _ _ _) (by simp [World.setRow]))
  · simp only [execOp, resolve, invoke, builtin, Sem.run_bind, Sem.run_pure, Result.andThen_ok, List.map_toArray, List.map_cons, List.map_nil, hρ x _ hx, hρ y _ hy]
    rw [hr]
    simp only [Result.andThen_ok, Sem.run_pure, hsz]
    have e1 : List.take (n * k) (l.flatMap f ++ zs) = l.flatMap f := by rw [← hl, List.take_left]
    have e2 : List.drop (n * k + (f u).length) (l.flatMap f ++ zs) = zs.drop k := by rw [← hl, hu, List.drop_append, List.drop_of_length_le (by omega)]; simp
    rw [e1, e2]
  · unfold Vr at hV ⊢
    rw [setRow_heap w b _ _ e _ hV, List.flatMap_append]
    simp
/-- a literal of one struct -/
theorem TL.buildX1 {α : Type} {f : α → List Value} {x : Operand} {ty e : TypeId} [hT : USlice P ty e] {z : List Value} {sz b1 : Nat} [hS : USize P e (.agg z.toArray) sz b1] {u : α} {vs : List Value} (hx : look σ x = some (.agg vs.toArray)) (hvs : f u = vs) (hd : Nat.blt d N.n = true) (hl : Nat.beq vs.length sz = true) (hzl : Nat.beq z.length sz = true) (h0 : Nat.blt 0 sz = true) (h16 : Nat.ble sz 1000 = true)
    (K : ∀ w' b, b = w.heap.size → Vr w'.heap b e (f u) → Sm sz f w'.heap w'.heap.size (some ⟨b, 0, none⟩) 1 1 [u] → Ext w w' → w'.heap.size = w.heap.size + 1 → TL P N .seq ops Q rest ((d, .slice (some ⟨b, 0, none⟩) 1 1) :: σ) w') :
    TL P N .seq ops Q (⟨some d, .buildSlice ty 1 #[(0, x)], t, pos, af, none⟩ :: rest) σ w := by
  subst hvs
  obtain ⟨i, hi, hz0, hsz, hby⟩ := hS.info
  have hlen := Nat.eq_of_beq_eq_true hl
  have hzlen := Nat.eq_of_beq_eq_true hzl
  have hpos : 0 < sz := by simpa [Nat.blt_eq] using h0
  have h16' : sz ≤ 1000 := by simpa [Nat.ble_eq] using h16
  have hm : ((Array.range (1 * i.size)).map (fun q => z.toArray[q % z.toArray.size]!)) = z.toArray := by
    apply Array.ext
    · simp [hsz, hzlen]
    · intro q h1 h2
      simp at h2
      simp [Nat.mod_eq_of_lt h2, getElem!_pos, h2]
  have hfill : Instr.fill (fun j => some (j * i.size, i.size)) z.toArray [(0, Value.agg (f u).toArray)] = some (f u).toArray := by
    have e2 : Array.foldl (fun (cs : Array Value) (p : Value × Nat) => cs.setIfInBounds (0 * i.size + p.2) p.1) z.toArray (f u).toArray.zipIdx = (f u).toArray := by
      apply Array.ext'
      have := foldl_put (f u) 0 0 z.toArray
      rw [Nat.zero_mul, ← Array.foldl_toList, Array.toList_zipIdx]
      simp only [Nat.add_zero] at this
      rw [this]
      apply List.ext_getElem?
      intro j
      rw [putV_get]
      simp only [Nat.zero_le, true_and, Nat.zero_add, Nat.sub_zero]
      split
      · rfl
      · rename_i hj
        have hge : sz ≤ j := by simp only [hlen, List.toList_toArray, hzlen] at hj; omega
        rw [List.getElem?_eq_none (by simp [hzlen]; omega), List.getElem?_eq_none (by omega)]
    have e3 : (decide ((Value.agg (f u).toArray).cells.size ≠ i.size) || decide (0 * i.size + (Value.agg (f u).toArray).cells.size > z.toArray.size)) = false := by simp [Value.cells, hsz, hlen, hzlen]
    unfold Instr.fill
    simp only [e3]
    unfold Instr.fill
    exact congrArg some e2
  have hrun : (Instr.buildSlice ty 1 #[(0, Value.agg (f u).toArray)]).run P w = .ok (.slice (some ⟨w.heap.size, 0, none⟩) 1 1) (w.alloc (.cells (f u).toArray e)) := by
    refine run_buildSlice w ty e 1 _ (f u).toArray i (.agg z.toArray) hT.out hi hz0 (by rw [hsz]; omega) (by rw [hsz]; omega) ?_
    simp only [Value.cells]
    rw [hm]
    exact hfill
  refine TL.op (w' := w.alloc (.cells (f u).toArray e)) (fun ρ hρ => ?_) hd (K _ _ rfl (by unfold Vr; rw [heap_alloc]) ?_ (ext_alloc _ _) (size_alloc _ _))
  · simp [execOp, hρ x _ hx, hrun]
  · have hV : Vr (w.alloc (.cells (f u).toArray e)).heap w.heap.size e ([u].flatMap f ++ []) := by unfold Vr; rw [heap_alloc]; simp
    exact vr_sm hpos (fun x hx => by rw [List.mem_singleton] at hx; subst hx; exact hlen) hV rfl (Nat.le_refl _) (by simp)
end
section
variable {P : Program} {N : Fm} {Q : Exit → Act → World → Prop} {S : World → Prop} {σ : Store} {w : World} {l : List Oper} {f : Nat}
/-- a guarded operation whose guard says yes -/
theorem TF.sg {i : Nat} {t : Rt} {d : Nat} {op : Op} {ty : TypeId} {pos : String} {af : Array Edge} {v : Value} {j s : Nat} {want b : Bool} (hi : pick1 l i = some ⟨some d, op, ty, pos, af, some (j, want)⟩) (hj : (pick1 l j).bind (·.dst) = some s) (hb : look1 σ s = some (.bool b)) (heq : (b == want) = true)
    (h : ∀ w', S w' → Ev P σ w'.heap ⟨some d, op, ty, pos, af, some (j, want)⟩ v) (hd : Nat.blt d N.n = true) (k : TF P N l Q S f t ((d, v) :: σ) w) : TF P N l Q S f (.s i t) σ w := by
  unfold TF at *
  intro a ha
  refine ⟨_, v, pick_at hi, .inl ⟨?_, fun w' hw' => by have := h w' hw'; unfold Ev at this; exact this _ w' ha.agree rfl⟩, k _ (ha.put hd v)⟩
  have hj' : (l.toArray[j]?).bind (·.dst) = some s := by rw [List.getElem?_toArray, ← pick1_eq]; exact hj
  simp only [Region.wanted, yielded_of ha hj' hb]
  cases b <;> cases want <;> simp_all
end
end Go.Eng
namespace Go.Eng
open Go Go.RowKit
section
variable {P : Program} {N : Fm} {Q : Exit → Act → World → Prop} {σ : Store} {w : World} {ops : Array Oper} {d : Nat} {t : TypeId} {pos : String} {af : Array Edge} {rest : List Oper}
theorem put_front (a b z : List Value) (h : a.length = z.length) : putV (z ++ b) 0 a = a ++ b := by
  apply List.ext_getElem?
  intro j
  rw [putV_get]
  simp only [Nat.zero_le, true_and, Nat.zero_add, Nat.sub_zero, List.length_append]
  split
  · rename_i hj; rw [List.getElem?_append_left hj.1]
  · rename_i hj
    rcases Nat.lt_or_ge j a.length with h1 | h1
    · omega
    · rw [List.getElem?_append_right (by omega), List.getElem?_append_right h1, h]
theorem put_back (a b z : List Value) (h : b.length = z.length) : putV (a ++ z) a.length b = a ++ b := by
  apply List.ext_getElem?
  intro j
  rw [putV_get]
  simp only [List.length_append]
  split
  · rename_i hj; rw [List.getElem?_append_right hj.1]
  · rename_i hj
    rcases Nat.lt_or_ge j a.length with h1 | h1
    · rw [List.getElem?_append_left h1, List.getElem?_append_left h1]
    · rw [List.getElem?_eq_none (by simp; omega), List.getElem?_eq_none (by simp; omega)]
/-- a literal of two structs -/
theorem TL.buildX2 {α : Type} {f : α → List Value} {x y : Operand} {ty e : TypeId} [hT : USlice P ty e] {z : List Value} {sz b1 : Nat} [hS : USize P e (.agg z.toArray) sz b1] {u v : α} {vs vs' : List Value} (hx : look σ x = some (.agg vs.toArray)) (hy : look σ y = some (.agg vs'.toArray)) (hvs : f u = vs) (hvs' : f v = vs') (hd : Nat.blt d N.n = true)
    (hl : Nat.beq vs.length sz = true) (hl' : Nat.beq vs'.length sz = true) (hzl : Nat.beq z.length sz = true) (h0 : Nat.blt 0 sz = true) (h16 : Nat.ble sz 1000 = true)
    (K : ∀ w' b, b = w.heap.size → Sm sz f w'.heap w'.heap.size (some ⟨b, 0, none⟩) 2 2 [u, v] → Ext w w' → w'.heap.size = w.heap.size + 1 → TL P N .seq ops Q rest ((d, .slice (some ⟨b, 0, none⟩) 2 2) :: σ) w') :
    TL P N .seq ops Q (⟨some d, .buildSlice ty 2 #[(0, x), (1, y)], t, pos, af, none⟩ :: rest) σ w := by
  subst hvs hvs'
  obtain ⟨i, hi, hz0, hsz, hby⟩ := hS.info
  have hlen := Nat.eq_of_beq_eq_true hl
  have hlen' := Nat.eq_of_beq_eq_true hl'
  have hzlen := Nat.eq_of_beq_eq_true hzl
  have hpos : 0 < sz := by simpa [Nat.blt_eq] using h0
  have h16' : sz ≤ 1000 := by simpa [Nat.ble_eq] using h16
  have hm : ((Array.range (2 * i.size)).map (fun q => z.toArray[q % z.toArray.size]!)) = (z ++ z).toArray := by
    apply Array.ext
    · simp [hsz, hzlen]; omega
    · intro q h1 h2
      simp [hzlen] at h2
      have hmod : q % sz < sz := Nat.mod_lt _ hpos
      simp only [Array.getElem_map, Array.getElem_range, List.size_toArray, hzlen, List.getElem_toArray]
      rcases Nat.lt_or_ge q sz with hq | hq
      · rw [List.getElem_append_left (by omega)]
        simp [Nat.mod_eq_of_lt hq, hzlen, hq]
      · rw [List.getElem_append_right (by omega)]
        have e1 : q % sz = q - z.length := by rw [hzlen, Nat.mod_eq_sub_mod hq, Nat.mod_eq_of_lt (by omega)]
        have h3 : q - z.length < z.length := by omega
        simp [e1, List.getElem?_eq_getElem h3]
  have hfill : Instr.fill (fun j => some (j * i.size, i.size)) (z ++ z).toArray [(0, Value.agg (f u).toArray), (1, Value.agg (f v).toArray)] = some (f u ++ f v).toArray := by
    have p1 : Array.foldl (fun (cs : Array Value) (p : Value × Nat) => cs.setIfInBounds (0 * i.size + p.2) p.1) (z ++ z).toArray (f u).toArray.zipIdx = (f u ++ z).toArray := by
      apply Array.ext'
      have := foldl_put (f u) 0 0 (z ++ z).toArray
      rw [Nat.zero_mul, ← Array.foldl_toList, Array.toList_zipIdx]
      simp only [Nat.add_zero] at this
      rw [this]
      exact put_front _ _ _ (by omega)
    have p2 : Array.foldl (fun (cs : Array Value) (p : Value × Nat) => cs.setIfInBounds (1 * i.size + p.2) p.1) (f u ++ z).toArray (f v).toArray.zipIdx = (f u ++ f v).toArray := by
      apply Array.ext'
      have := foldl_put (f v) 0 sz (f u ++ z).toArray
      rw [hsz, Nat.one_mul, ← Array.foldl_toList, Array.toList_zipIdx]
      simp only [Nat.add_zero] at this
      rw [this, ← hlen]
      exact put_back _ _ _ (by omega)
    have e3 : (decide ((Value.agg (f u).toArray).cells.size ≠ i.size) || decide (0 * i.size + (Value.agg (f u).toArray).cells.size > (z ++ z).toArray.size)) = false := by simp [Value.cells, hsz, hlen, hzlen]
    have e4 : (decide ((Value.agg (f v).toArray).cells.size ≠ i.size) || decide (1 * i.size + (Value.agg (f v).toArray).cells.size > (f u ++ z).toArray.size)) = false := by simp [Value.cells, hsz, hlen, hlen', hzlen]
    unfold Instr.fill
    simp only [e3]
    rw [show (Value.agg (f u).toArray).cells = (f u).toArray from rfl, p1]
    unfold Instr.fill
    simp only [e4]
    rw [show (Value.agg (f v).toArray).cells = (f v).toArray from rfl, p2]
    unfold Instr.fill
    rfl
  have hrun : (Instr.buildSlice ty 2 #[(0, Value.agg (f u).toArray), (1, Value.agg (f v).toArray)]).run P w = .ok (.slice (some ⟨w.heap.size, 0, none⟩) 2 2) (w.alloc (.cells (f u ++ f v).toArray e)) := by
    refine run_buildSlice w ty e 2 _ (f u ++ f v).toArray i (.agg z.toArray) hT.out hi hz0 (by rw [hsz]; omega) (by rw [hsz]; omega) ?_
    simp only [Value.cells]
    rw [hm]
    exact hfill
  refine TL.op (w' := w.alloc (.cells (f u ++ f v).toArray e)) (fun ρ hρ => ?_) hd (K _ _ rfl ?_ (ext_alloc _ _) (size_alloc _ _))
  · simp [execOp, hρ x _ hx, hρ y _ hy, hrun]
  · have hV : Vr (w.alloc (.cells (f u ++ f v).toArray e)).heap w.heap.size e ([u, v].flatMap f ++ []) := by unfold Vr; rw [heap_alloc]; simp
    refine vr_sm hpos (fun x hx => ?_) hV rfl (Nat.le_refl _) (by simp)
    simp only [List.mem_cons, List.not_mem_nil, or_false] at hx
    rcases hx with rfl | rfl <;> assumption
end
end Go.Eng
namespace Go.Eng
open Go Go.RowKit
/-- what stood stands, but for block b -/
structure Exb (b : Nat) (w w' : World) : Prop where
  size : w.heap.size ≤ w'.heap.size
  block : ∀ k, k < w.heap.size → k ≠ b → w'.heap[k]? = w.heap[k]?
theorem Exb.refl (b : Nat) (w : World) : Exb b w w := ⟨Nat.le_refl _, fun _ _ _ => rfl⟩
theorem Exb.ext {b : Nat} {w w1 w2 : World} (h : Exb b w w1) (hE : Ext w1 w2) : Exb b w w2 := ⟨Nat.le_trans h.size hE.size, fun k hk hne => (hE.block k (Nat.lt_of_lt_of_le hk h.size)).trans (h.block k hk hne)⟩
theorem Exb.upd {b : Nat} {w w1 w2 : World} (h : Exb b w w1) (hu : Upd b w1 w2) : Exb b w w2 := ⟨by rw [hu.size]; exact h.size, fun k hk hne => (hu.block k hne).trans (h.block k hk hne)⟩
theorem Vr.exb {b g : Nat} {w w' : World} {t : TypeId} {cs : List Value} (hE : Exb b w w') (h : Vr w.heap g t cs) (hne : g ≠ b) : Vr w'.heap g t cs := (hE.block g h.lt hne).trans h
theorem T.regionXb {P : Program} {N : Fm} {Q : Exit → Act → World → Prop} {σ : Store} {w : World} {l : List Oper} (b : Nat) (id : Nat) (f : Nat) (t : Rt) (hm : P.follows .mixedOrders = true) (hB : treeB l.toArray f t = true) (h : ∀ w1 : World, w1.heap.size = w.heap.size → Ext w w1 → TF P N l Q (fun w' => Exb b w w') f t σ w1) : T P N (.region id l.toArray true) Q σ w :=
  T.regionF _ f t hm hB ((Exb.refl b w).ext (ext_drewN w 1)) (h (w.drewN 1) (by simp) (ext_drewN w 1))
end Go.Eng

namespace Go.Proofs.YthlbihbchobllaaGreat
open Go Go.Eng Go.Proofs Go.NatM Go.RowKit

theorem side_ok (H : Array Obj) (n : Int) (b : Bool) (h : decide (0 ≤ n ∧ n ≤ 64) = b) : Pure Tryz.prog 32 #[.int .i64 n] H (.bool b) := by
  refine Pure.of fun w hw => ?_
  subst hw h
  refine enter Tryz.func32 rfl rfl rfl ?_
  repeat' (first | refine TL.ev (ev_simple rfl) rfl ?_ | refine TL.grun rfl rfl rfl ?_ | refine TL.gskip rfl rfl rfl rfl ?_ | (refine TL.cmpG rfl rfl rfl rfl (fun hc => ?_) (fun hc => ?_) <;> try (exfalso; omega)) | refine T.seq ?_ | refine T.region ?_ | refine TL.nil ?_ | refine T.ret ?_ | refine G.next ?_)
  · exact G.ret1 rfl rfl ⟨by rw [decide_eq_true (by omega)], Qt.refl _⟩
  · exact G.ret1 rfl rfl ⟨by rw [decide_eq_false (by omega)], Qt.refl _⟩
  · exact G.ret1 rfl rfl ⟨by rw [decide_eq_false (by omega)], Qt.refl _⟩
/-- the shape of a matrix -/
structure Sound (x : MV) (r c : Nat) : Prop where
  er : x.r = r
  ec : x.c = c
  r64 : r ≤ 64
  c64 : c ≤ 64
  n : x.n = r * c
theorem mul64 {r c : Nat} (hr : r ≤ 64) (hc : c ≤ 64) : r * c ≤ 4096 := Nat.mul_le_mul hr hc
theorem chk_ok (w : World) (x : MV) (r c : Nat) (hS : Sound x r c) : Cl Tryz.prog 15 #[.agg (mvc x).toArray] w (fun e w' => e = .returned (.int .i64 0) ∧ Ext w w') := by
  obtain ⟨xr, xc, A, n, k, l⟩ := x
  obtain ⟨h1, h2, h3, h4, h5⟩ := hS
  dsimp only at h1 h2 h5
  subst h1 h2 h5
  have hm := mul64 h3 h4
  have hs1 : decide ((0 : Int) ≤ (r : Int) ∧ (r : Int) ≤ 64) = true := decide_eq_true (by omega)
  have hs2 : decide ((0 : Int) ≤ (c : Int) ∧ (c : Int) ≤ 64) = true := decide_eq_true (by omega)
  refine enter Tryz.func15 rfl rfl rfl ?_
  repeat' (first | refine TL.ev (ev_simple rfl) rfl ?_ | refine TL.grun rfl rfl rfl ?_ | (refine TL.call rfl rfl ?_; first | (refine (side_ok _ _ _ hs1).clX.mono ?_; rintro _ wc ⟨rfl, hzc, hEc⟩; refine Back.mk ?_) | (refine (side_ok _ _ _ hs2).clX.mono ?_; rintro _ wc ⟨rfl, hzc, hEc⟩; refine Back.mk ?_)) | refine TL.ev (ev_len rfl) rfl ?_ | (refine TL.cmpG rfl rfl rfl rfl (fun hc => ?_) (fun hc => ?_) <;> try first | (exfalso; omega) | exact absurd rfl hc) | refine TL.ev (ev_arN rfl rfl rfl (by omega)) rfl ?_ | (refine TL.boxA (cs := mvc ⟨r, c, A, r * c, k, l⟩) rfl rfl (fun wb bb ebb hVb hEb hzb => ?_)) | (refine TL.ev (ev_fieldAddr rfl) rfl ?_) | (refine TL.ev (ev_loadVX rfl (by refine ⟨?_, ?_⟩; (focus (repeat (first | assumption | (apply Vr.ext; assumption) | (apply Vr.updX; assumption; rotate_left; omega)))); rfl)) rfl ?_) | refine T.seq ?_ | refine T.region ?_ | refine TL.nil ?_ | refine T.cond_f rfl ?_ | refine T.ret ?_ | refine T.skip ?_ | refine G.next ?_)
  exact G.ret1 rfl rfl ⟨rfl, (by repeat (first | exact Ext.refl _ | (refine Ext.trans ?_ (by assumption)) | (apply ext_upd; assumption; rotate_left; omega)))⟩
theorem check_ok (w : World) (A : Option Addr) (n k : Nat) (L : List MV) (hs : Sm 3 mvc w.heap w.heap.size A n k L) (hL : ∀ y ∈ L, ∃ r c, Sound y r c) (hn : n ≤ 1048576) : Cl Tryz.prog 24 #[.slice A n k] w (fun e w' => e = .returned (.int .i64 0) ∧ Ext w w') := by
  have hlen := hs.len
  refine enter Tryz.func24 rfl rfl rfl ?_
  repeat' (first | refine TL.ev (ev_simple rfl) rfl ?_ | refine TL.ev (ev_len rfl) rfl ?_ | refine T.seq ?_ | refine T.region ?_ | refine TL.nil ?_ | refine T.block ?_ | refine G.next ?_)
  refine T.loop (α := Nat) (fun i => [(5, .slice A n k), (6, .int .i64 (n : Int)), (7, .int .i64 (i : Int))]) (fun i w' => i ≤ n ∧ Ext w w') (fun i => n - i) 0 (by repeat (first | exact Sub.nil _ | refine Sub.cons rfl ?_ | refine Sub.cons' rfl (int_congr (by omega)) ?_)) ⟨Nat.zero_le _, Ext.refl _⟩ ?_
  rintro i w2 ⟨hi, hE2⟩
  have s2 := hs.ext hE2
  rcases Nat.lt_or_ge i n with hin | hin
  · have hy : L[i]? = some (L.getD i default) := by simp [List.getD, show i < L.length by omega]
    obtain ⟨r, c, hS⟩ := hL _ (List.mem_of_getElem? hy)
    generalize L.getD i default = y at *
    repeat' (first | refine TL.ev (ev_simple rfl) rfl ?_ | (refine TL.call rfl rfl ?_; first | (refine (chk_ok _ y r c hS).mono ?_; rintro _ wc ⟨rfl, hEc⟩; refine Back.mk ?_)) | (refine TL.cmpG rfl rfl rfl rfl (fun hc => ?_) (fun hc => ?_) <;> try (exfalso; omega)) | refine TL.ev (ev_arN rfl rfl rfl (by omega)) rfl ?_ | (refine TL.ev (ev_indexM rfl rfl (by omega) s2.some) rfl ?_) | (refine TL.ev (ev_loadM rfl s2 hy) rfl ?_) | (refine TL.storeVX (vs := mvc y) rfl rfl rfl rfl (by refine ⟨?_, ?_⟩; (focus (repeat (first | assumption | (apply Vr.ext; assumption)))); rfl) (fun ws hVs hUs hzs => ?_)) | (refine TL.ev (ev_loadVAX (cs' := mvc y) rfl (by refine ⟨?_, ?_⟩; (focus (repeat (first | assumption | (apply Vr.ext; assumption)))); rfl)) rfl ?_) | (refine TL.alloc rfl (fun wa ba eba hVa hEa hza => ?_); have hla := box_lo (w0 := w) (by repeat (first | exact Ext.refl _ | (refine Ext.trans ?_ (by assumption)) | (apply ext_upd; assumption; rotate_left; omega))) eba) | refine T.seq ?_ | refine T.region ?_ | refine TL.nil ?_ | refine T.block ?_ | refine T.cond_t rfl ?_ | refine T.cond_f rfl ?_ | refine T.skip ?_ | refine G.next ?_ | refine G.blockN ?_)
    exact G.again (i + 1) (by repeat (first | exact Sub.nil _ | refine Sub.cons rfl ?_ | refine Sub.cons' rfl (int_congr (by omega)) ?_)) ⟨by omega, (by repeat (first | exact Ext.refl _ | (refine Ext.trans ?_ (by assumption)) | (apply ext_upd; assumption; rotate_left; omega)))⟩ (by omega)
  · obtain rfl : i = n := by omega
    repeat' (first | refine TL.ev (ev_simple rfl) rfl ?_ | (refine TL.cmpG rfl rfl rfl rfl (fun hc => ?_) (fun hc => ?_) <;> try (exfalso; omega)) | refine T.seq ?_ | refine T.region ?_ | refine TL.nil ?_ | refine T.cond_f rfl ?_ | refine T.exit ?_ | refine T.ret ?_ | refine G.next ?_ | refine G.blockE ?_ | refine G.thenE ?_)
    exact G.ret1 rfl rfl ⟨rfl, hE2⟩
/-- a matrix that reads; entries of at most K words -/
structure GM (H : Array Obj) (x : MV) (r c : Nat) (K : Nat) : Prop where
  sh : Sound x r c
  s : Sm 2 ivc H H.size x.A x.n x.k x.l
  g : ∀ y ∈ x.l, GI H y ∧ y.m.n ≤ K
/-- a matrix whose entries are F, in least form -/
structure LM (H : Array Obj) (x : MV) (r c : Nat) (F : Nat → Nat → Int) (K : Nat) : Prop where
  sh : Sound x r c
  s : Sm 2 ivc H H.size x.A x.n x.k x.l
  g : ∀ i j, i < r → j < c → LI H (F i j) (x.l.getD (i * c + j) default) ∧ (x.l.getD (i * c + j) default).m.n ≤ K
def ent (x : MV) (c i j : Nat) : Int := ival (x.l.getD (i * c + j) default)
theorem place_lt {i j r c : Nat} (hi : i < r) (hj : j < c) : i * c + j < r * c := by
  have h1 : (i + 1) * c ≤ r * c := Nat.mul_le_mul_right c hi
  rw [Nat.add_mul] at h1
  omega
theorem LM.gm {H : Array Obj} {x : MV} {r c : Nat} {F : Nat → Nat → Int} {K : Nat} (h : LM H x r c F K) : GM H x r c K := by
  refine ⟨h.sh, h.s, fun y hy => ?_⟩
  obtain ⟨q, hq⟩ := List.getElem?_of_mem hy
  have hlt := (List.getElem?_eq_some_iff.1 hq).1
  have hlen := h.s.len
  rw [h.sh.n] at hlen
  have hc : 0 < c := by rcases Nat.eq_zero_or_pos c with h0 | h0
                        · rw [h0, Nat.mul_zero] at hlen; omega
                        · exact h0
  have h1 : q / c < r := Nat.div_lt_of_lt_mul (by rw [Nat.mul_comm]; omega)
  have h2 := h.g (q / c) (q % c) h1 (Nat.mod_lt _ hc)
  rw [Nat.div_add_mod'] at h2
  have e : x.l.getD q default = y := by simp [List.getD, hq]
  rw [e] at h2
  exact ⟨h2.1.g, h2.2⟩
theorem LM.ent {H : Array Obj} {x : MV} {r c : Nat} {F : Nat → Nat → Int} {K : Nat} (h : LM H x r c F K) {i j : Nat} (hi : i < r) (hj : j < c) : ent x c i j = F i j := (h.g i j hi hj).1.val
theorem GM.ext {w w' : World} {x : MV} {r c K : Nat} (hE : Ext w w') (h : GM w.heap x r c K) : GM w'.heap x r c K := ⟨h.sh, (h.s.ext hE).size, fun y hy => ⟨(h.g y hy).1.ext hE, (h.g y hy).2⟩⟩
theorem LM.ext {w w' : World} {x : MV} {r c K : Nat} {F : Nat → Nat → Int} (hE : Ext w w') (h : LM w.heap x r c F K) : LM w'.heap x r c F K := ⟨h.sh, (h.s.ext hE).size, fun i j hi hj => ⟨(h.g i j hi hj).1.ext hE, (h.g i j hi hj).2⟩⟩
/-- the list lies in a block that is not older than w -/
def MF (w : World) (x : MV) : Prop := x.n = 0 ∨ ∃ b, x.A = some ⟨b, 0, none⟩ ∧ w.heap.size ≤ b
theorem MF.mono {w w1 : World} {x : MV} (h : MF w1 x) (hs : w.heap.size ≤ w1.heap.size) : MF w x := h.imp id fun ⟨b, e, hb⟩ => ⟨b, e, Nat.le_trans hs hb⟩
def RetM (w : World) (r c : Nat) (F : Nat → Nat → Int) (K : Nat) (e : Ending) (w' : World) : Prop := ∃ x : MV, e = .returned (.agg (mvc x).toArray) ∧ LM w'.heap x r c F K ∧ Ext w w' ∧ MF w x
theorem ivc_all (l : List IV) (zs : List Value) (hz : zs.all noU64 = true) : (l.flatMap ivc ++ zs).all noU64 = true := by
  rw [List.all_append, hz, Bool.and_true]
  rw [List.all_eq_true]
  intro v hv
  obtain ⟨x, _, hx⟩ := List.mem_flatMap.1 hv
  simp only [ivc, List.mem_cons, List.not_mem_nil, or_false] at hx
  rcases hx with rfl | rfl <;> rfl
theorem getD_snoc {l : List IV} {x : IV} {q : Nat} (h : q < (l ++ [x]).length) : (l ++ [x]).getD q default = if q < l.length then l.getD q default else x := by
  simp only [List.length_append, List.length_singleton] at h
  split
  · rename_i h1
    simp [List.getD, List.getElem?_append_left h1]
  · rename_i h1
    obtain rfl : q = l.length := by omega
    simp [List.getD]
set_option maxRecDepth 100000 in
set_option maxHeartbeats 8000000 in
theorem build_ok (w : World) (r c : Nat) (hr : r ≤ 64) (hc : c ≤ 64) (g : FuncId) (cap : List Value) (hg : IsFn Tryz.prog g) (F : Nat → Nat → Int) (K : Nat)
    (hF : ∀ (i j : Nat) (w1 : World), i < r → j < c → Ext w w1 → Cl Tryz.prog g ([Value.int .i64 (i : Int), Value.int .i64 (j : Int)] ++ cap).toArray w1 (RetZ w1 (F i j) K)) :
    Cl Tryz.prog 33 #[.int .i64 (r : Int), .int .i64 (c : Int), .func (.func g) #[] cap.toArray] w (RetM w r c F K) := by
  have hm := mul64 hr hc
  refine enter Tryz.func33 rfl rfl rfl ?_
  repeat' (first | refine TL.ev (ev_simple rfl) rfl ?_ | refine TL.ev (ev_arN rfl rfl rfl (by omega)) rfl ?_ | (refine TL.makeX (z := [.bool false, .slice none 0 0]) rfl rfl rfl (by omega) (by omega) rfl rfl rfl (fun w3 b3 zs eb3 hzl hzn hV3 hE3 hz3 => ?_)) | (refine TL.alloc rfl (fun wa ba eba hVa hEa hza => ?_); have hla := box_lo (w0 := w) (by repeat (first | exact Ext.refl _ | (refine Ext.trans ?_ (by assumption)) | (apply ext_upd; assumption; rotate_left; omega))) eba) | (refine TL.storeVX rfl rfl rfl rfl (by refine ⟨?_, ?_⟩; (focus (repeat (first | assumption | (apply Vr.ext; assumption) | (apply Vr.updX; assumption; rotate_left; omega)))); rfl) (fun ws hVs hUs hzs => ?_)) | (refine TL.ev (ev_buildX rfl rfl) rfl ?_) | refine T.seq ?_ | refine T.region ?_ | refine TL.nil ?_ | refine T.block ?_ | refine G.next ?_)
  rename_i w6 b6 eb6 hV6 hE6 hz6 hl6
  have hne : b3 ≠ ba := by omega
  have hl3 : w.heap.size ≤ b3 := by omega
  have hV3s : Vr ws.heap b3 43 zs := (by repeat (first | assumption | (apply Vr.ext; assumption) | (apply Vr.updX; assumption; rotate_left; omega)))
  have hV6s : Vr ws.heap b6 24 (Value.agg #[.int .i64 0, .int .i64 0, .slice none 0 0]).cells.toList := (by repeat (first | assumption | (apply Vr.ext; assumption) | (apply Vr.updX; assumption; rotate_left; omega)))
  have hEs : Ext w ws := (by repeat (first | exact Ext.refl _ | (refine Ext.trans ?_ (by assumption)) | (apply ext_upd; assumption; rotate_left; omega)))
  have hne6 : b6 ≠ ba := by omega
  have hne63 : b6 ≠ b3 := by omega
  clear hV3 hVa hzs hEa
  have hgone : True := trivial
  refine T.loop (α := Nat × List IV × List Value) (fun x => [(1, .int .i64 (c : Int)), (2, .func (.func g) #[] cap.toArray), (6, .pointer (some ⟨b6, 0, none⟩)), (7, .pointer (some ⟨ba, 0, none⟩)), (17, .int .i64 (r : Int)), (18, .int .i64 (x.1 : Int))])
    (fun x w' => x.1 ≤ r ∧ x.2.1.length = x.1 * c ∧ x.2.2.length = (r * c - x.1 * c) * 2 ∧ x.2.2.all noU64 = true ∧ Ext w w' ∧ Vr w'.heap b3 43 (x.2.1.flatMap ivc ++ x.2.2) ∧ Vr w'.heap ba 24 [.int .i64 (r : Int), .int .i64 (c : Int), .slice (some ⟨b3, 0, none⟩) (x.1 * c) (r * c)] ∧
      (∃ cs6, Vr w'.heap b6 24 cs6 ∧ cs6.length = 3 ∧ cs6.all noU64 = true) ∧ ∀ q, q < x.2.1.length → LI w'.heap (F (q / c) (q % c)) (x.2.1.getD q default) ∧ (x.2.1.getD q default).m.n ≤ K)
    (fun x => r - x.1) (0, [], zs) (by repeat (first | exact Sub.nil _ | refine Sub.cons rfl ?_ | refine Sub.cons' rfl (int_congr (by omega)) ?_)) ⟨Nat.zero_le _, by simp, by simp; omega, hzn, hEs, by simpa using hV3s, by simpa using hVs, ⟨_, hV6s, rfl, rfl⟩, fun q hq => by simp at hq⟩ ?_
  rintro ⟨i, l, zz⟩ w2 ⟨hi, hl, hzzl, hzz, hE2, hV32, hV72, ⟨cs6, hV62, hl6', hn6⟩, hg2⟩
  dsimp only at hi hl hzzl hzz hE2 hV32 hV72 hV62 hg2 ⊢
  rcases Nat.lt_or_ge i r with hin | hin
  · repeat' (first | refine TL.ev (ev_simple rfl) rfl ?_ | (refine TL.cmpG rfl rfl rfl rfl (fun hc => ?_) (fun hc => ?_) <;> try (exfalso; omega)) | refine T.seq ?_ | refine T.region ?_ | refine TL.nil ?_ | refine T.block ?_ | refine T.cond_t rfl ?_ | refine T.skip ?_ | refine G.next ?_)
    refine T.loop (α := Nat × List IV × List Value) (fun x => [(1, .int .i64 (c : Int)), (2, .func (.func g) #[] cap.toArray), (6, .pointer (some ⟨b6, 0, none⟩)), (7, .pointer (some ⟨ba, 0, none⟩)), (8, .int .i64 (i : Int)), (17, .int .i64 (r : Int)), (18, .int .i64 (i : Int)), (21, .int .i64 (c : Int)), (22, .int .i64 (x.1 : Int))])
      (fun x w' => x.1 ≤ c ∧ x.2.1.length = i * c + x.1 ∧ x.2.2.length = (r * c - (i * c + x.1)) * 2 ∧ x.2.2.all noU64 = true ∧ Ext w w' ∧ Vr w'.heap b3 43 (x.2.1.flatMap ivc ++ x.2.2) ∧ Vr w'.heap ba 24 [.int .i64 (r : Int), .int .i64 (c : Int), .slice (some ⟨b3, 0, none⟩) (i * c + x.1) (r * c)] ∧
        (∃ cs6, Vr w'.heap b6 24 cs6 ∧ cs6.length = 3 ∧ cs6.all noU64 = true) ∧ ∀ q, q < x.2.1.length → LI w'.heap (F (q / c) (q % c)) (x.2.1.getD q default) ∧ (x.2.1.getD q default).m.n ≤ K)
      (fun x => c - x.1) (0, l, zz) (by repeat (first | exact Sub.nil _ | refine Sub.cons rfl ?_ | refine Sub.cons' rfl (int_congr (by omega)) ?_)) ⟨Nat.zero_le _, hl, hzzl, hzz, hE2, hV32, hV72, ⟨cs6, hV62, hl6', hn6⟩, hg2⟩ ?_
    clear hV32 hV72 hV62 hg2 hE2 hl hzzl hzz
    rintro ⟨j, l, zz⟩ w2 ⟨hj, hl, hzzl, hzz, hE2, hV32, hV72, ⟨cs6, hV62, hl6', hn6⟩, hg2⟩
    dsimp only at hj hl hzzl hzz hE2 hV32 hV72 hV62 hg2 ⊢
    rcases Nat.lt_or_ge j c with hjn | hjn
    · have hpl := place_lt hin hjn
      have hc0 : 0 < c := by omega
      repeat' (first | refine TL.ev (ev_simple rfl) rfl ?_ | (refine TL.cmpG rfl rfl rfl rfl (fun hc => ?_) (fun hc => ?_) <;> try (exfalso; omega)) | refine TL.ev (ev_arN rfl rfl rfl (by omega)) rfl ?_ | refine TF.nil ?_ | refine TF.e rfl ?_ | refine G.treeEnd rfl ?_ | refine TF.s rfl (fun _ hh => ev_simple rfl) rfl ?_ | refine TF.s rfl (fun _ hh => ev_fieldAddr rfl) rfl ?_ | refine T.regionXb b3 8 9 (.s 0 (.s 1 (.s 2 (.s 3 (.s 4 (.e 5 (.e 6 (.e 7 (.s 8 (.e 9 .nil)))))))))) mixed (by kernel_rfl) (fun wr hzr hEr => ?_) | (refine G.tree rfl (by repeat (first | exact Exb.refl _ _ | (refine Exb.ext ?_ (by assumption)) | (refine Exb.upd ?_ (by assumption)))) ?_) | (refine TF.s rfl (fun _ hh => ev_loadVX rfl ⟨Vr.exb hh hV72 (Ne.symm hne), rfl⟩) rfl ?_) | (refine TL.callV (vs := [.int .i64 (i : Int), .int .i64 (j : Int)]) (cap := cap) hg rfl rfl rfl ?_; refine (hF i j _ hin hjn (by repeat (first | exact Ext.refl _ | (refine Ext.trans ?_ (by assumption)) | (apply ext_upd; assumption; rotate_left; omega)))).mono ?_; rintro _ wf ⟨x, rfl, hLx, hEf, hKx⟩; refine Back.mk ?_; have hzf := hEf.size) | (refine TL.buildX1 (f := ivc) (u := x) rfl rfl rfl rfl rfl rfl rfl (fun wn bn ebn hVn hSn hEn hzn' => ?_)) | (refine TL.appendX (f := ivc) (u := x) (l := l) (zs := zz) (fun _ => rfl) rfl rfl rfl hSn (by repeat (first | assumption | (apply Vr.ext; assumption) | (apply Vr.updX; assumption; rotate_left; omega))) (fun _ _ => rfl) hl (by omega) (by omega) (fun wp hVp hUp hzp => ?_)) | (refine TL.storeX rfl rfl rfl rfl (by refine ⟨?_, ?_⟩; (focus (repeat (first | assumption | (apply Vr.ext; assumption) | (apply Vr.updX; assumption; rotate_left; omega)))); rfl) (fun ws hVs hUs hzs => ?_)) | refine T.seq ?_ | refine T.region ?_ | refine TL.nil ?_ | refine T.block ?_ | refine T.cond_t rfl ?_ | refine T.skip ?_ | refine G.next ?_ | refine G.blockN ?_ | refine G.only ?_)
      have hEn' : ∀ z y, LI w2.heap z y → LI wn.heap z y := fun z y h => by repeat (first | assumption | (apply LI.ext; assumption))
      have hV3n : Vr wn.heap b3 43 (l.flatMap ivc ++ zz) := (by repeat (first | assumption | (apply Vr.ext; assumption) | (apply Vr.updX; assumption; rotate_left; omega)))
      have hV7p : Vr wp.heap ba 24 [.int .i64 (r : Int), .int .i64 (c : Int), .slice (some ⟨b3, 0, none⟩) (i * c + j) (r * c)] := (by repeat (first | assumption | (apply Vr.ext; assumption) | (apply Vr.updX; assumption; rotate_left; omega)))
      have keep : ∀ z y, LI wn.heap z y → LI ws.heap z y := fun z y h => LI.updV hUs hV7p rfl (LI.updV hUp hV3n (ivc_all _ _ hzz) h)
      have hV6e : Vr ws.heap b6 24 cs6 := (by repeat (first | assumption | (apply Vr.ext; assumption) | (apply Vr.updX; assumption; rotate_left; omega)))
      have hV3e := Vr.updX hUs hVp hne
      have hlq : (l ++ [x]).length = i * c + (j + 1) := by simp; omega
      have hqd : (i * c + j) / c = i := by rw [Nat.mul_comm, Nat.mul_add_div hc0, Nat.div_eq_of_lt hjn, Nat.add_zero]
      have hqm : (i * c + j) % c = j := by rw [Nat.mul_comm, Nat.mul_add_mod, Nat.mod_eq_of_lt hjn]
      refine G.again (j + 1, l ++ [x], zz.drop 2) (by repeat (first | exact Sub.nil _ | refine Sub.cons rfl ?_ | refine Sub.cons' rfl (int_congr (by omega)) ?_)) ⟨by dsimp only; omega, hlq, by simp; omega, ?_, (by repeat (first | exact Ext.refl _ | (refine Ext.trans ?_ (by assumption)) | (apply ext_upd; assumption; rotate_left; omega))), hV3e, hVs, ⟨cs6, hV6e, hl6', hn6⟩, fun q hq => ?_⟩ (by dsimp only; omega)
      · rw [List.all_eq_true] at hzz ⊢
        exact fun v hv => hzz v (List.mem_of_mem_drop hv)
      · dsimp only at hq ⊢
        rw [getD_snoc hq]
        split
        · rename_i h1
          exact ⟨keep _ _ (hEn' _ _ (hg2 q h1).1), (hg2 q h1).2⟩
        · rename_i h1
          obtain rfl : q = i * c + j := by rw [hlq] at hq; omega
          rw [hqd, hqm]
          exact ⟨keep _ _ (hLx.ext hEn), hKx⟩
    · obtain rfl : j = c := by omega
      repeat' (first | refine TL.ev (ev_simple rfl) rfl ?_ | (refine TL.cmpG rfl rfl rfl rfl (fun hc => ?_) (fun hc => ?_) <;> try (exfalso; omega)) | refine TL.ev (ev_arN rfl rfl rfl (by omega)) rfl ?_ | refine T.seq ?_ | refine T.region ?_ | refine TL.nil ?_ | refine T.cond_f rfl ?_ | refine T.exit ?_ | refine G.next ?_ | refine G.blockN ?_ | refine G.blockE ?_ | refine G.thenE ?_)
      refine G.again (i + 1, l, zz) (by repeat (first | exact Sub.nil _ | refine Sub.cons rfl ?_ | refine Sub.cons' rfl (int_congr (by omega)) ?_)) ⟨by dsimp only; omega, by dsimp only; rw [hl, Nat.add_mul, Nat.one_mul], by dsimp only; rw [hzzl, Nat.add_mul, Nat.one_mul], hzz, hE2, hV32, by dsimp only; rw [Nat.add_mul, Nat.one_mul]; exact hV72, ⟨cs6, hV62, hl6', hn6⟩, hg2⟩ (by dsimp only; omega)
  · obtain rfl : i = r := by omega
    have hzz0 : zz = [] := List.eq_nil_of_length_eq_zero (by rw [hzzl, Nat.sub_self, Nat.zero_mul])
    subst hzz0
    match cs6, hl6', hV62, hn6 with
    | [y0, y1, y2], _, hV62, hn6 =>
      repeat' (first | (refine TL.cmpG rfl rfl rfl rfl (fun hc => ?_) (fun hc => ?_) <;> try (exfalso; omega)) | (refine TL.ev (ev_loadVAX rfl (by refine ⟨?_, ?_⟩; (focus (repeat (first | assumption | (apply Vr.ext; assumption) | (apply Vr.updX; assumption; rotate_left; omega)))); rfl)) rfl ?_) | (refine TL.storeVX rfl rfl rfl rfl (by refine ⟨?_, ?_⟩; (focus (repeat (first | assumption | (apply Vr.ext; assumption) | (apply Vr.updX; assumption; rotate_left; omega)))); rfl) (fun ws hVs hUs hzs => ?_)) | refine T.seq ?_ | refine T.region ?_ | refine TL.nil ?_ | refine T.cond_f rfl ?_ | refine T.exit ?_ | refine T.ret ?_ | refine G.next ?_ | refine G.blockE ?_ | refine G.thenE ?_)
      have hV3e : Vr ws.heap b3 43 (l.flatMap ivc ++ []) := Vr.updX hUs hV32 (Ne.symm hne63)
      have hs := vr_sm (n := i * c) (c := i * c) (B := ws.heap.size) (show 0 < 2 by omega) (fun _ _ => rfl) hV3e hl (Nat.le_refl _) hV3e.lt
      refine G.retC1 rfl rfl (held_agg hVs rfl) ⟨⟨(i : Int), (c : Int), some ⟨b3, 0, none⟩, i * c, i * c, l⟩, rfl, ⟨⟨rfl, rfl, hr, by assumption, rfl⟩, hs, fun a b ha hb => ?_⟩, (by repeat (first | exact Ext.refl _ | (refine Ext.trans ?_ (by assumption)) | (apply ext_upd; assumption; rotate_left; omega))), .inr ⟨b3, rfl, hl3⟩⟩
      have hq := place_lt ha hb
      obtain ⟨g1, g2⟩ := hg2 (a * c + b) (by omega)
      rw [show (a * c + b) / c = a by rw [Nat.mul_comm, Nat.mul_add_div (by omega), Nat.div_eq_of_lt hb, Nat.add_zero], show (a * c + b) % c = b by rw [Nat.mul_comm, Nat.mul_add_mod, Nat.mod_eq_of_lt hb]] at g1
      exact ⟨LI.updV hUs hV62 hn6 g1, g2⟩
end Go.Proofs.YthlbihbchobllaaGreat

namespace Go.Proofs.YthlbihbchobllaaGreat
open Go Go.Eng Go.Proofs Go.NatM Go.RowKit

def noBool : Value → Bool
  | .bool _ => false
  | _ => true
theorem sm_updV {w w' : World} {B n k b : Nat} {A : Option Addr} {l : List IV} {t : TypeId} {cs : List Value} (hu : Upd b w w') (hV : Vr w.heap b t cs) (hc : cs.all noBool = true) (h : Sm 2 ivc w.heap B A n k l) : Sm 2 ivc w'.heap B A n k l := by
  refine ⟨h.len, h.cap, h.pos, h.wid, ?_⟩
  rcases h.mem with h0 | ⟨b', o, e, hlt, hm⟩
  · exact .inl h0
  · rcases Nat.eq_zero_or_pos n with h0 | h0
    · exact .inl h0
    · have hl : 0 < l.length := by have := h.len; omega
      have hne : b' ≠ b := by
        intro hb
        subst hb
        have h1 := hm 0 l[0] (List.getElem?_eq_getElem hl) 0 (.bool l[0].neg) rfl
        rw [hV.cell] at h1
        have h2 := List.all_eq_true.1 hc _ (List.mem_of_getElem? h1)
        cases h2
      refine .inr ⟨b', o, e, hlt, fun j x hx q v hv => ?_⟩
      have := hm j x hx q v hv
      unfold hcell at this ⊢
      rw [hu.block b' hne]
      exact this
theorem LM.updV {w w' : World} {x : MV} {r c K b : Nat} {F : Nat → Nat → Int} {t : TypeId} {cs : List Value} (hu : Upd b w w') (hV : Vr w.heap b t cs) (h1 : cs.all noU64 = true) (h2 : cs.all noBool = true) (h : LM w.heap x r c F K) : LM w'.heap x r c F K :=
  ⟨h.sh, (sm_updV hu hV h2 h.s).size, fun i j hi hj => ⟨LI.updV hu hV h1 (h.g i j hi hj).1, (h.g i j hi hj).2⟩⟩
theorem LI.zero (H : Array Obj) : LI H 0 ⟨false, ⟨none, 0, 0, []⟩⟩ := ⟨⟨Sl.nil _ _ _ _ _, U64.nil⟩, by simp [dig_zero], rfl⟩
/-- f 0 + .. + f (m - 1) -/
def psum (f : Nat → Int) : Nat → Int
  | 0 => 0
  | k + 1 => f k + psum f k
set_option maxRecDepth 100000 in
set_option maxHeartbeats 8000000 in
theorem prod1_ok (w : World) (r m c i j Kx Ky : Nat) (A A' : Option Addr) (k k' : Nat) (l l' : List IV) (pa pb : Nat) (gx : GM w.heap ⟨r, m, A, r * m, k, l⟩ r m Kx) (gy : GM w.heap ⟨m, c, A', m * c, k', l'⟩ m c Ky) (hx : Kx ≤ 8796093022000) (hy : Ky ≤ 8796093022000)
    (hpa : Vr w.heap pa 24 (mvc ⟨r, m, A, r * m, k, l⟩)) (hpb : Vr w.heap pb 24 (mvc ⟨m, c, A', m * c, k', l'⟩)) (hi : i < r) (hj : j < c) :
    Cl Tryz.prog 48 #[.int .i64 (i : Int), .int .i64 (j : Int), .pointer (some ⟨pa, 0, none⟩), .pointer (some ⟨pb, 0, none⟩)] w (RetZ w (psum (fun q => ival (l.getD (i * m + q) default) * ival (l'.getD (q * c + j) default)) m) (Kx + Ky + m)) := by
  have hr64 := gx.sh.r64
  have hm64 := gx.sh.c64
  have hc64 := gy.sh.c64
  have hmul1 := mul64 hr64 hm64
  have hmul2 := mul64 hm64 hc64
  have hs := gx.s
  have hs' := gy.s
  have hlen := hs.len
  have hlen' := hs'.len
  dsimp only at hs hs' hlen hlen'
  refine enter Tryz.func48 rfl rfl rfl ?_
  repeat' (first | refine TL.ev (ev_simple rfl) rfl ?_ | (refine TL.alloc rfl (fun wa ba eba hVa hEa hza => ?_); have hla := box_lo (w0 := w) (by repeat (first | exact Ext.refl _ | (refine Ext.trans ?_ (by assumption)) | (apply ext_upd; assumption; rotate_left; omega))) eba) | (refine TL.ev (ev_fieldAddr rfl) rfl ?_) | (refine TL.ev (ev_loadVX rfl (by refine ⟨?_, ?_⟩; (focus (repeat (first | assumption | (apply Vr.ext; assumption) | (apply Vr.updX; assumption; rotate_left; omega)))); rfl)) rfl ?_) | refine T.seq ?_ | refine T.region ?_ | refine TL.nil ?_ | refine T.block ?_ | refine G.next ?_)
  rename_i w6 b6 eb6 hV6 hE6 hz6 hl6
  have hV6a : Vr wa.heap b6 43 (Value.agg #[.bool false, .slice none 0 0]).cells.toList := hV6.ext hEa
  have hEw : Ext w wa := (by repeat (first | exact Ext.refl _ | (refine Ext.trans ?_ (by assumption)) | (apply ext_upd; assumption; rotate_left; omega)))
  have hne : b6 ≠ ba := by omega
  refine T.loop (α := Nat × IV) (fun x => [(0, .int .i64 (i : Int)), (1, .int .i64 (j : Int)), (2, .pointer (some ⟨pa, 0, none⟩)), (3, .pointer (some ⟨pb, 0, none⟩)), (6, .pointer (some ⟨b6, 0, none⟩)), (7, .pointer (some ⟨ba, 0, none⟩)), (10, .int .i64 (m : Int)), (11, .int .i64 (x.1 : Int))])
    (fun x w' => x.1 ≤ m ∧ Ext w w' ∧ Vr w'.heap ba 43 (ivc x.2) ∧ Vr w'.heap b6 43 [.bool false, .slice none 0 0] ∧ LI w'.heap (psum (fun q => ival (l.getD (i * m + q) default) * ival (l'.getD (q * c + j) default)) x.1) x.2 ∧ x.2.m.n ≤ Kx + Ky + x.1)
    (fun x => m - x.1) (0, ⟨false, ⟨none, 0, 0, []⟩⟩) (by repeat (first | exact Sub.nil _ | refine Sub.cons rfl ?_ | refine Sub.cons' rfl (int_congr (by omega)) ?_)) ⟨Nat.zero_le _, hEw, hVa, hV6a, LI.zero _, Nat.zero_le _⟩ ?_
  rintro ⟨q, s⟩ w2 ⟨hq, hE2, hV72, hV62, hL2, hK2⟩
  dsimp only at hq hE2 hV72 hV62 hL2 hK2 ⊢
  rcases Nat.lt_or_ge q m with hqm | hqm
  · have hp1 := place_lt hi hqm
    have hp2 := place_lt hqm hj
    have s1 := hs.ext hE2
    have s2 := hs'.ext hE2
    have hpa2 := hpa.ext hE2
    have hpb2 := hpb.ext hE2
    have y1 : l[i * m + q]? = some (l.getD (i * m + q) default) := by simp [List.getD, show i * m + q < l.length by omega]
    have y2 : l'[q * c + j]? = some (l'.getD (q * c + j) default) := by simp [List.getD, show q * c + j < l'.length by omega]
    obtain ⟨g1, n1⟩ := (gx.ext hE2).g _ (List.mem_of_getElem? y1)
    obtain ⟨g2, n2⟩ := (gy.ext hE2).g _ (List.mem_of_getElem? y2)
    have g3 := hL2.g
    have hstep : psum (fun q => ival (l.getD (i * m + q) default) * ival (l'.getD (q * c + j) default)) (q + 1) = ival (l.getD (i * m + q) default) * ival (l'.getD (q * c + j) default) + ival s := by rw [hL2.val]; rfl
    obtain ⟨x1, hx1⟩ : ∃ x1, l.getD (i * m + q) default = x1 := ⟨_, rfl⟩
    obtain ⟨x2, hx2⟩ : ∃ x2, l'.getD (q * c + j) default = x2 := ⟨_, rfl⟩
    rw [hx1] at y1 g1 n1 hstep
    rw [hx2] at y2 g2 n2 hstep
    repeat' (first | refine TL.ev (ev_simple rfl) rfl ?_ | (refine TL.call rfl rfl ?_; first | (refine (zmulAdd_ok _ x1 x2 s (by repeat (first | assumption | (apply GI.ext; assumption))) (by repeat (first | assumption | (apply GI.ext; assumption))) (by repeat (first | assumption | (apply GI.ext; assumption))) (by omega) (by omega) (by omega)).mono ?_; rintro _ wm ⟨s', rfl, hLm, hEm, hKm⟩; refine Back.mk ?_; have hzm := hEm.size; rw [← hstep] at hLm)) | (refine TL.cmpG rfl rfl rfl rfl (fun hc => ?_) (fun hc => ?_) <;> try (exfalso; omega)) | refine TL.ev (ev_arN rfl rfl rfl (by omega)) rfl ?_ | refine TF.nil ?_ | refine TF.e rfl ?_ | refine G.treeEnd rfl ?_ | refine TF.s rfl (fun _ hh => ev_simple rfl) rfl ?_ | refine TF.s rfl (fun _ hh => ev_arN rfl rfl rfl (by omega)) rfl ?_ | refine TF.s rfl (fun _ hh => ev_fieldAddr rfl) rfl ?_ | refine TF.s rfl (fun _ hh => ev_loadVX rfl (by refine ⟨?_, ?_⟩; (focus (repeat (first | assumption | (apply Vr.ext; assumption) | (apply Vr.updX; assumption; rotate_left; omega)))); rfl)) rfl ?_ | refine TF.s rfl (fun _ hh => ev_loadVAX rfl (by refine ⟨?_, ?_⟩; (focus (repeat (first | assumption | (apply Vr.ext; assumption) | (apply Vr.updX; assumption; rotate_left; omega)))); rfl)) rfl ?_ | refine T.regionX 5 22 (.s 0 (.s 1 (.s 2 (.s 3 (.s 4 (.s 5 (.s 6 (.s 7 (.s 8 (.s 9 (.s 10 (.s 11 (.s 12 (.s 13 (.s 14 (.s 15 (.s 16 (.s 17 (.s 18 (.s 19 (.s 20 (.e 21 (.e 22 .nil))))))))))))))))))))))) mixed (by kernel_rfl) (fun wr hzr hEr => ?_) | (refine TF.s rfl (fun _ _ => ev_indexM rfl rfl hp1 s1.some) rfl ?_) | (refine TF.s rfl (fun _ _ => ev_indexM rfl rfl hp2 s2.some) rfl ?_) | (refine TF.s rfl (fun _ hh => ev_loadM rfl (s1.ext hh) y1) rfl ?_) | (refine TF.s rfl (fun _ hh => ev_loadM rfl (s2.ext hh) y2) rfl ?_) | (refine TL.storeVX rfl rfl rfl rfl (by refine ⟨?_, ?_⟩; (focus (repeat (first | assumption | (apply Vr.ext; assumption) | (apply Vr.updX; assumption; rotate_left; omega)))); rfl) (fun ws hVs hUs hzs => ?_)) | refine G.tree rfl (by repeat (first | exact Ext.refl _ | (refine Ext.trans ?_ (by assumption)) | (apply ext_upd; assumption; rotate_left; omega))) ?_ | refine T.seq ?_ | refine T.region ?_ | refine TL.nil ?_ | refine T.block ?_ | refine T.cond_t rfl ?_ | refine T.skip ?_ | refine G.next ?_ | refine G.blockN ?_ | refine G.only ?_)
    have hV7m : Vr wm.heap ba 43 (ivc s) := (by repeat (first | assumption | (apply Vr.ext; assumption) | (apply Vr.updX; assumption; rotate_left; omega)))
    have hV6e : Vr ws.heap b6 43 [.bool false, .slice none 0 0] := (by repeat (first | assumption | (apply Vr.ext; assumption) | (apply Vr.updX; assumption; rotate_left; omega)))
    exact G.again (q + 1, s') (by repeat (first | exact Sub.nil _ | refine Sub.cons rfl ?_ | refine Sub.cons' rfl (int_congr (by omega)) ?_)) ⟨by dsimp only; omega, (by repeat (first | exact Ext.refl _ | (refine Ext.trans ?_ (by assumption)) | (apply ext_upd; assumption; rotate_left; omega))), hVs, hV6e, LI.updV hUs hV7m rfl hLm, by dsimp only; omega⟩ (by dsimp only; omega)
  · obtain rfl : q = m := by omega
    repeat' (first | (refine TL.cmpG rfl rfl rfl rfl (fun hc => ?_) (fun hc => ?_) <;> try (exfalso; omega)) | (refine TL.ev (ev_loadVAX rfl (by refine ⟨?_, ?_⟩; (focus (repeat (first | assumption | (apply Vr.ext; assumption) | (apply Vr.updX; assumption; rotate_left; omega)))); rfl)) rfl ?_) | (refine TL.storeVX rfl rfl rfl rfl (by refine ⟨?_, ?_⟩; (focus (repeat (first | assumption | (apply Vr.ext; assumption) | (apply Vr.updX; assumption; rotate_left; omega)))); rfl) (fun ws hVs hUs hzs => ?_)) | refine T.seq ?_ | refine T.region ?_ | refine TL.nil ?_ | refine T.cond_f rfl ?_ | refine T.exit ?_ | refine T.ret ?_ | refine G.next ?_ | refine G.blockE ?_ | refine G.thenE ?_)
    exact G.retC1 rfl rfl (held_agg hVs rfl) ⟨s, rfl, LI.updV hUs hV62 rfl hL2, (by repeat (first | exact Ext.refl _ | (refine Ext.trans ?_ (by assumption)) | (apply ext_upd; assumption; rotate_left; omega))), hK2⟩
theorem mprod_ok (w : World) (x y : MV) (r m c Kx Ky : Nat) (gx : GM w.heap x r m Kx) (gy : GM w.heap y m c Ky) (hx : Kx ≤ 8796093022000) (hy : Ky ≤ 8796093022000) :
    Cl Tryz.prog 25 #[.agg (mvc x).toArray, .agg (mvc y).toArray] w (RetM w r c (fun i j => psum (fun q => ent x m i q * ent y c q j) m) (Kx + Ky + m)) := by
  obtain ⟨xr, xc, A, n, k, l⟩ := x
  obtain ⟨yr, yc, A', n', k', l'⟩ := y
  obtain ⟨h1, h2, h3, h4, h5⟩ := id gx.sh
  obtain ⟨h1', h2', h3', h4', h5'⟩ := id gy.sh
  dsimp only at h1 h2 h5 h1' h2' h5'
  subst h1 h2 h5 h1' h2' h5'
  refine enter Tryz.func25 rfl rfl rfl ?_
  repeat' (first | (refine TL.call rfl rfl ?_; first | (refine (build_ok _ r c h3 h4' 48 [.pointer (some ⟨bb, 0, none⟩), .pointer (some ⟨bd, 0, none⟩)] inferInstance (fun i j => psum (fun q => ival (l.getD (i * m + q) default) * ival (l'.getD (q * c + j) default)) m) (Kx + Ky + m) (fun i j w1 hi hj hE1 => prod1_ok w1 r m c i j Kx Ky A A' k k' l l' bb bd ((by repeat (first | assumption | (apply GM.ext; assumption)))) ((by repeat (first | assumption | (apply GM.ext; assumption)))) hx hy ((by repeat (first | assumption | (apply Vr.ext; assumption)))) ((by repeat (first | assumption | (apply Vr.ext; assumption)))) hi hj)).mono ?_; rintro _ wp ⟨z, rfl, hLp, hEp, hfp⟩; refine Back.mk ?_; have hzp := hEp.size)) | (refine TL.boxA (cs := mvc ⟨r, m, A, r * m, k, l⟩) rfl rfl (fun wb bb ebb hVb hEb hzb => ?_)) | (refine TL.boxA (cs := mvc ⟨m, c, A', m * c, k', l'⟩) rfl rfl (fun wd bd ebd hVd hEd hzd => ?_)) | (refine TL.alloc rfl (fun wa ba eba hVa hEa hza => ?_); have hla := box_lo (w0 := w) (by repeat (first | exact Ext.refl _ | (refine Ext.trans ?_ (by assumption)) | (apply ext_upd; assumption; rotate_left; omega))) eba) | (refine TL.ev (ev_fieldAddr rfl) rfl ?_) | (refine TL.ev (ev_loadVX rfl (by refine ⟨?_, ?_⟩; (focus (repeat (first | assumption | (apply Vr.ext; assumption) | (apply Vr.updX; assumption; rotate_left; omega)))); rfl)) rfl ?_) | (refine TL.storeVX rfl rfl rfl rfl (by refine ⟨?_, ?_⟩; (focus (repeat (first | assumption | (apply Vr.ext; assumption) | (apply Vr.updX; assumption; rotate_left; omega)))); rfl) (fun ws hVs hUs hzs => ?_)) | (refine TL.ev (ev_makeFunc rfl) rfl ?_) | refine T.seq ?_ | refine T.region ?_ | refine TL.nil ?_ | refine T.ret ?_ | refine G.next ?_)
  exact G.retC1 rfl rfl (held_agg hVs rfl) ⟨z, rfl, LM.updV hUs (by repeat (first | assumption | (apply Vr.ext; assumption) | (apply Vr.updX; assumption; rotate_left; omega))) rfl rfl hLp, (by repeat (first | exact Ext.refl _ | (refine Ext.trans ?_ (by assumption)) | (apply ext_upd; assumption; rotate_left; omega))), hfp.mono (by omega)⟩
/-- a new matrix and an error's number 0 -/
def RetME (w : World) (r c : Nat) (F : Nat → Nat → Int) (K : Nat) (e : Ending) (w' : World) : Prop := ∃ x : MV, e = .returned (.tuple #[.agg (mvc x).toArray, .int .i64 0]) ∧ LM w'.heap x r c F K ∧ Ext w w' ∧ MF w x
theorem sound_two {x y : MV} {r m m' c : Nat} (h : Sound x r m) (h' : Sound y m' c) : ∀ z ∈ [x, y], ∃ r c, Sound z r c := by
  intro z hz
  simp only [List.mem_cons, List.not_mem_nil, or_false] at hz
  rcases hz with rfl | rfl
  · exact ⟨_, _, h⟩
  · exact ⟨_, _, h'⟩
theorem mmul_ok (w : World) (x y : MV) (r m c Kx Ky : Nat) (gx : GM w.heap x r m Kx) (gy : GM w.heap y m c Ky) (hx : Kx ≤ 8796093022000) (hy : Ky ≤ 8796093022000) :
    Cl Tryz.prog 8 #[.agg (mvc x).toArray, .agg (mvc y).toArray] w (RetME w r c (fun i j => psum (fun q => ent x m i q * ent y c q j) m) (Kx + Ky + m)) := by
  have e1 := gx.sh.ec
  have e2 := gy.sh.er
  have h2 := sound_two gx.sh gy.sh
  refine enter Tryz.func8 rfl rfl rfl ?_
  repeat' (first | refine TL.ev (ev_simple rfl) rfl ?_ | (refine TL.call rfl rfl ?_; first | (refine (check_ok _ _ _ _ _ hSn h2 (by omega)).mono ?_; rintro _ wc ⟨rfl, hEc⟩; refine Back.mk ?_; have hzc := hEc.size) | (refine (mprod_ok _ x y r m c Kx Ky (by repeat (first | assumption | (apply GM.ext; assumption))) (by repeat (first | assumption | (apply GM.ext; assumption))) hx hy).mono ?_; rintro _ wp ⟨z, rfl, hLp, hEp, hfp⟩; refine Back.mk ?_; have hzp := hEp.size)) | (refine TL.cmpG rfl rfl rfl rfl (fun hc => ?_) (fun hc => ?_) <;> try first | (exfalso; omega) | exact absurd rfl hc) | (refine TL.buildX2 (f := mvc) (u := x) (v := y) rfl rfl rfl rfl rfl rfl rfl rfl rfl rfl (fun wn bn ebn hSn hEn hzn => ?_)) | (refine TL.boxA rfl rfl (fun wb bb ebb hVb hEb hzb => ?_); have hlb := box_lo (w0 := w) (by repeat (first | exact Ext.refl _ | (refine Ext.trans ?_ (by assumption)) | (apply ext_upd; assumption; rotate_left; omega))) ebb) | (refine TL.alloc rfl (fun wa ba eba hVa hEa hza => ?_); have hla := box_lo (w0 := w) (by repeat (first | exact Ext.refl _ | (refine Ext.trans ?_ (by assumption)) | (apply ext_upd; assumption; rotate_left; omega))) eba) | (refine TL.ev (ev_fieldAddr rfl) rfl ?_) | (refine TL.ev (ev_loadVX rfl (by refine ⟨?_, ?_⟩; (focus (repeat (first | assumption | (apply Vr.ext; assumption) | (apply Vr.updX; assumption; rotate_left; omega)))); rfl)) rfl ?_) | (refine TL.ev (ev_loadVAX rfl (by refine ⟨?_, ?_⟩; (focus (repeat (first | assumption | (apply Vr.ext; assumption) | (apply Vr.updX; assumption; rotate_left; omega)))); rfl)) rfl ?_) | (refine TL.storeVX rfl rfl rfl rfl (by refine ⟨?_, ?_⟩; (focus (repeat (first | assumption | (apply Vr.ext; assumption) | (apply Vr.updX; assumption; rotate_left; omega)))); rfl) (fun ws hVs hUs hzs => ?_)) | refine T.seq ?_ | refine T.region ?_ | refine TL.nil ?_ | refine T.cond_f rfl ?_ | refine T.ret ?_ | refine T.skip ?_ | refine G.next ?_)
  exact G.retC2 rfl rfl rfl (held_agg hVs rfl) ⟨z, rfl, LM.updV hUs (by repeat (first | assumption | (apply Vr.ext; assumption) | (apply Vr.updX; assumption; rotate_left; omega))) rfl rfl hLp, (by repeat (first | exact Ext.refl _ | (refine Ext.trans ?_ (by assumption)) | (apply ext_upd; assumption; rotate_left; omega))), hfp.mono (by omega)⟩
theorem of1_ok (w : World) : Cl Tryz.prog 35 #[.int .i64 1] w (RetZ w 1 1) := by
  refine enter Tryz.func35 rfl rfl rfl ?_
  repeat' (first | refine TL.ev (ev_simple rfl) rfl ?_ | (refine TL.call rfl rfl ?_; first | (refine (least_ok _ _ _ _ _ _ hSn (U64.one (by omega)) (by omega)).mono ?_; rintro _ wl ⟨Al, nl, cl, rfl, hOl, hEl, hKl⟩; refine Back.mk ?_; have hSl := hOl.sl (Nat.le_refl _); have hzl := hEl.size) | (refine (of_ok _ _ _ _ _ _ hSl).mono ?_; rintro _ wo ⟨rfl, hLo, hEo⟩; refine Back.mk ?_; have hzo := hEo.size)) | (refine TL.cmpG rfl rfl rfl rfl (fun hc => ?_) (fun hc => ?_) <;> try (exfalso; omega)) | refine TL.ev (ev_convU rfl (by omega)) rfl ?_ | (refine TL.build1U rfl rfl (fun wn bn ebn hBn hEn hzn => ?_); have hSn := hBn.slN (n := 1) (c := 1) rfl (Nat.le_refl _) hBn.lt) | (refine TL.alloc rfl (fun wa ba eba hVa hEa hza => ?_); have hla := box_lo (w0 := w) (by repeat (first | exact Ext.refl _ | (refine Ext.trans ?_ (by assumption)) | (apply ext_upd; assumption; rotate_left; omega))) eba) | (refine TL.storeVX rfl rfl rfl rfl (by refine ⟨?_, ?_⟩; (focus (repeat (first | assumption | (apply Vr.ext; assumption) | (apply Vr.updX; assumption; rotate_left; omega)))); rfl) (fun ws hVs hUs hzs => ?_)) | refine T.seq ?_ | refine T.region ?_ | refine TL.nil ?_ | refine T.cond_f rfl ?_ | refine T.ret ?_ | refine T.skip ?_ | refine G.next ?_)
  exact G.retC1 rfl rfl (held_agg hVs rfl) ⟨_, rfl, LI.updV hUs (by repeat (first | assumption | (apply Vr.ext; assumption) | (apply Vr.updX; assumption; rotate_left; omega))) rfl hLo, (by repeat (first | exact Ext.refl _ | (refine Ext.trans ?_ (by assumption)) | (apply ext_upd; assumption; rotate_left; omega))), hKl⟩
theorem unit1_ok (w : World) (i j : Nat) : Cl Tryz.prog 34 #[.int .i64 (i : Int), .int .i64 (j : Int)] w (RetZ w (if i = j then 1 else 0) 1) := by
  by_cases h : i = j
  · rw [if_pos h]
    refine enter Tryz.func34 rfl rfl rfl ?_
    repeat' (first | refine TL.ev (ev_simple rfl) rfl ?_ | (refine TL.call rfl rfl ?_; first | (refine (of1_ok _).mono ?_; rintro _ wo ⟨z, rfl, hLo, hEo, hKo⟩; refine Back.mk ?_; have hzo := hEo.size)) | (refine TL.cmpG rfl rfl rfl rfl (fun hc => ?_) (fun hc => ?_) <;> try (exfalso; omega)) | (refine TL.alloc rfl (fun wa ba eba hVa hEa hza => ?_); have hla := box_lo (w0 := w) (by repeat (first | exact Ext.refl _ | (refine Ext.trans ?_ (by assumption)) | (apply ext_upd; assumption; rotate_left; omega))) eba) | (refine TL.storeVX rfl rfl rfl rfl (by refine ⟨?_, ?_⟩; (focus (repeat (first | assumption | (apply Vr.ext; assumption) | (apply Vr.updX; assumption; rotate_left; omega)))); rfl) (fun ws hVs hUs hzs => ?_)) | refine T.seq ?_ | refine T.region ?_ | refine TL.nil ?_ | refine T.cond_t rfl ?_ | refine T.ret ?_ | refine G.next ?_ | refine G.thenR ?_)
    exact G.retC1 rfl rfl (held_agg hVs rfl) ⟨z, rfl, LI.updV hUs (by repeat (first | assumption | (apply Vr.ext; assumption) | (apply Vr.updX; assumption; rotate_left; omega))) rfl hLo, (by repeat (first | exact Ext.refl _ | (refine Ext.trans ?_ (by assumption)) | (apply ext_upd; assumption; rotate_left; omega))), hKo⟩
  · rw [if_neg h]
    refine enter Tryz.func34 rfl rfl rfl ?_
    repeat' (first | refine TL.ev (ev_simple rfl) rfl ?_ | (refine TL.cmpG rfl rfl rfl rfl (fun hc => ?_) (fun hc => ?_) <;> try (exfalso; omega)) | (refine TL.alloc rfl (fun wa ba eba hVa hEa hza => ?_); have hla := box_lo (w0 := w) (by repeat (first | exact Ext.refl _ | (refine Ext.trans ?_ (by assumption)) | (apply ext_upd; assumption; rotate_left; omega))) eba) | (refine TL.storeVX rfl rfl rfl rfl (by refine ⟨?_, ?_⟩; (focus (repeat (first | assumption | (apply Vr.ext; assumption) | (apply Vr.updX; assumption; rotate_left; omega)))); rfl) (fun ws hVs hUs hzs => ?_)) | (refine TL.ev (ev_buildX rfl rfl) rfl ?_) | refine T.seq ?_ | refine T.region ?_ | refine TL.nil ?_ | refine T.cond_f rfl ?_ | refine T.ret ?_ | refine T.skip ?_ | refine G.next ?_)
    exact G.retC1 rfl rfl (held_agg hVs rfl) ⟨⟨false, ⟨none, 0, 0, []⟩⟩, rfl, LI.zero _, (by repeat (first | exact Ext.refl _ | (refine Ext.trans ?_ (by assumption)) | (apply ext_upd; assumption; rotate_left; omega))), Nat.zero_le _⟩
theorem munit_ok (w : World) (n : Nat) (hn : n ≤ 64) : Cl Tryz.prog 16 #[.int .i64 (n : Int)] w (RetME w n n (fun i j => if i = j then 1 else 0) 1) := by
  have hs : decide ((0 : Int) ≤ (n : Int) ∧ (n : Int) ≤ 64) = true := decide_eq_true (by omega)
  refine enter Tryz.func16 rfl rfl rfl ?_
  repeat' (first | refine TL.ev (ev_simple rfl) rfl ?_ | (refine TL.call rfl rfl ?_; first | (refine (side_ok _ _ _ hs).clX.mono ?_; rintro _ wc ⟨rfl, hzc, hEc⟩; refine Back.mk ?_) | (refine (build_ok _ n n hn hn 34 [] inferInstance (fun i j => if i = j then 1 else 0) 1 (fun i j w1 hi hj hE1 => unit1_ok w1 i j)).mono ?_; rintro _ wp ⟨z, rfl, hLp, hEp, hfp⟩; refine Back.mk ?_; have hzp := hEp.size)) | (refine TL.alloc rfl (fun wa ba eba hVa hEa hza => ?_); have hla := box_lo (w0 := w) (by repeat (first | exact Ext.refl _ | (refine Ext.trans ?_ (by assumption)) | (apply ext_upd; assumption; rotate_left; omega))) eba) | (refine TL.storeVX rfl rfl rfl rfl (by refine ⟨?_, ?_⟩; (focus (repeat (first | assumption | (apply Vr.ext; assumption) | (apply Vr.updX; assumption; rotate_left; omega)))); rfl) (fun ws hVs hUs hzs => ?_)) | refine T.seq ?_ | refine T.region ?_ | refine TL.nil ?_ | refine T.cond_f rfl ?_ | refine T.ret ?_ | refine T.skip ?_ | refine G.next ?_)
  exact G.retC2 rfl rfl rfl (held_agg hVs rfl) ⟨z, rfl, LM.updV hUs (by repeat (first | assumption | (apply Vr.ext; assumption) | (apply Vr.updX; assumption; rotate_left; omega))) rfl rfl hLp, (by repeat (first | exact Ext.refl _ | (refine Ext.trans ?_ (by assumption)) | (apply ext_upd; assumption; rotate_left; omega))), hfp.mono (by omega)⟩
end Go.Proofs.YthlbihbchobllaaGreat

namespace Go.Proofs.YthlbihbchobllaaGreat
open Go Go.Eng Go.Proofs Go.NatM Go.RowKit

end Go.Proofs.YthlbihbchobllaaGreat

namespace Go.Proofs.YthlbihbchobllaaGreat
open Go Go.Eng Go.Proofs Go.NatM

end Go.Proofs.YthlbihbchobllaaGreat

namespace Go.Proofs.YthlbihbchobllaaGreat
open Go Go.Eng Go.Proofs Go.NatM Go.RowKit

def YesM (w : World) (e : Ending) (w' : World) : Prop := e = .returned (.bool true) ∧ Ext w w'
def NoM (w : World) (e : Ending) (w' : World) : Prop := e = .returned (.bool false) ∧ Ext w w'
end Go.Proofs.YthlbihbchobllaaGreat

namespace Go.Proofs.YthlbihbchobllaaGreat
open Go Go.Eng Go.Proofs Go.NatM Go.RowKit

theorem dig_small {n : Nat} (h : n < 18446744073709551616) (h0 : n ≠ 0) : dig n = [n] := by
  rw [dig_pos h0, Nat.mod_eq_of_lt h, Nat.div_eq_of_lt h, dig_zero]
theorem mvc_mk (r c : Int) (A : Option Addr) (n k : Nat) (l : List IV) : mvc ⟨r, c, A, n, k, l⟩ = [.int .i64 r, .int .i64 c, .slice A n k] := rfl
end Go.Proofs.YthlbihbchobllaaGreat

namespace Go.Proofs.YthlbihbchobllaaGreat
open Go Go.Eng Go.Proofs Go.NatM Go.RowKit

/-- a matrix that reads, sound or not; entries of at most K words -/
structure RM (H : Array Obj) (x : MV) (K : Nat) : Prop where
  s : Sm 2 ivc H H.size x.A x.n x.k x.l
  g : ∀ y ∈ x.l, GI H y ∧ y.m.n ≤ K
theorem RM.gm {H : Array Obj} {x : MV} {r c K : Nat} (h : RM H x K) (hs : Sound x r c) : GM H x r c K := ⟨hs, h.s, h.g⟩
theorem GM.updV {w w' : World} {x : MV} {r c K b : Nat} {t : TypeId} {cs : List Value} (hu : Upd b w w') (hV : Vr w.heap b t cs) (h1 : cs.all noU64 = true) (h2 : cs.all noBool = true) (h : GM w.heap x r c K) : GM w'.heap x r c K :=
  ⟨h.sh, (sm_updV hu hV h2 h.s).size, fun y hy => ⟨⟨(sl_updV hu hV h1 (h.g y hy).1.s).size, (h.g y hy).1.u⟩, (h.g y hy).2⟩⟩
theorem lm_mk {H : Array Obj} {z : MV} {r c : Nat} {F : Nat → Nat → Int} {K : Nat} (h : LM H z r c F K) : ∃ A k l, z = ⟨r, c, A, r * c, k, l⟩ := by
  obtain ⟨zr, zc, A, n, k, l⟩ := z
  obtain ⟨h1, h2, h3, h4, h5⟩ := id h.sh
  dsimp only at h1 h2 h5
  subst h1 h2 h5
  exact ⟨A, k, l, rfl⟩
end Go.Proofs.YthlbihbchobllaaGreat
