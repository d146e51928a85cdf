/- zint's division: Trunc, Floor by a positive number, Euclid, Mod; Neg, Abs, Sign. Exact division: contracts of divnat.Exact, zint.Exact. zint's Abs, Of(0), Euclid, Mod; bezout.Ext. bezout.Ext. The ladder: meet. The ladder's plain law: settle's numbers; the invariants of a ladder's sides. -/
import Derived.Test.YthlbihbchobllaaGreatPh9
import Derived.Test.YthlbihbchobllaaGreatPh6
import Derived.Test.YthlbihbchobllaaGreatPh5
import Derived.Test.YthlbihbchobllaaGreatPh7
import Derived.Test.YthlbihbchobllaaGreatPh8
set_option linter.unusedVariables false
set_option linter.unusedSimpArgs false
namespace Go.Proofs.YthlbihbchobllaaGreat
open Go Go.Eng Go.Proofs Go.NatM Go.RowKit

def RetQR (w : World) (q r : Int) (K K' : Nat) (e : Ending) (w' : World) : Prop := ∃ x y : IV, e = .returned (.tuple #[.agg (ivc x).toArray, .agg (ivc y).toArray, .int .i64 0]) ∧ LI w'.heap q x ∧ LI w'.heap r y ∧ Ext w w' ∧ x.m.n ≤ K ∧ y.m.n ≤ K'
set_option maxRecDepth 100000 in
set_option maxHeartbeats 8000000 in
theorem ztrunc_ok (w : World) (x y : IV) (gx : GI w.heap x) (gy : GI w.heap y) (hx : x.m.n ≤ 8796093022208) (hy : y.m.n ≤ 8796093022208) (h0 : val y.m.l ≠ 0) :
    Cl Tryz.prog 82 #[.agg (ivc x).toArray, .agg (ivc y).toArray] w (RetQR w (sgn (x.neg != y.neg) (val x.m.l / val y.m.l)) (sgn x.neg (val x.m.l % val y.m.l)) x.m.n (x.m.n + 1)) := by
  have hs := gx.s
  have hu := gx.u
  have hs' := gy.s
  have hu' := gy.u
  obtain ⟨xs, ⟨xA, xn, xc, xl⟩⟩ := x
  obtain ⟨ys, ⟨yA, yn, yc, yl⟩⟩ := y
  dsimp only at hs hu hs' hu' hx hy h0 ⊢
  have hd := fun w1 (hE : Ext w w1) => divMod_ok w1 _ _ xA yA xn xc yn yc xl yl (hs.ext hE) (hs'.ext hE) hu hu' hx hy h0
  refine enter Tryz.func82 rfl rfl rfl ?_
  have hF := Fr.refl w
  repeat' (first | (refine TL.isOp ?_; first | (refine TL.isCall ?_; refine TL.call rfl rfl ?_; first | (refine (hd _ hF.ext).mono ?_; rintro _ wl ⟨A3, n3, c3, A4, n4, c4, rfl, hO3, hO4, hE, hK3, hK4⟩; have hS3 := hO3.sl (Nat.le_refl _); have hS4 := hO4.sl (Nat.le_refl _); replace hF := Fr.addSl (Fr.addSl (hF.exts hE) hS3) hS4; clear hO3 hS3 hO4 hS4 hE; refine Back.mk ?_) | (refine (of_ok _ (xs != ys) A3 n3 c3 (val xl / val yl) (Fr.sl hF (by repeat (first | exact memH | apply memT)))).mono ?_; rintro _ wo ⟨rfl, hLo, hEo⟩; replace hF := Fr.addLI (hF.exts hEo) hLo; clear hLo hEo; refine Back.mk ?_) | (refine (of_ok _ xs A4 n4 c4 (val xl % val yl) (Fr.sl hF (by repeat (first | exact memH | apply memT)))).mono ?_; rintro _ wp ⟨rfl, hLo, hEo⟩; replace hF := Fr.addLI (hF.exts hEo) hLo; clear hLo hEo; refine Back.mk ?_)) | (refine TL.isBin ?_; refine TL.cmpG rfl rfl rfl rfl (fun hc => ?_) (fun hc => ?_) <;> (try (first | (exfalso; omega) | exact absurd rfl hc))) | (apply TL.ev; (case hd => rfl); (case h => (first | exact ev_simple rfl | (apply Ev.isLoad; first | exact ev_loadFr hF rfl (by refine ⟨?_, ?_⟩; (focus (repeat (first | exact InV.head | apply InV.tail))); rfl)) | exact ev_fieldAddr rfl))) | (refine TL.storeAFr hF rfl rfl rfl rfl (by refine ⟨?_, ?_⟩; (focus (repeat (first | apply SetV.head | apply SetV.tail))); rfl) rfl ?_; clear hF; intro ws hF) | (refine TL.boxAFr hF (d := 2) (cs := [.bool xs, .slice xA xn xc]) rfl rfl ?_; clear hF; intro w2 b2 hF) | (refine TL.boxAFr hF (d := 3) (cs := [.bool ys, .slice yA yn yc]) rfl rfl ?_; clear hF; intro w3 b3 hF) | (refine TL.allocFr hF (d := 4) rfl rfl ?_; clear hF; intro w4 b4 hF) | (refine TL.allocFr hF (d := 5) rfl rfl ?_; clear hF; intro w5 b5 hF)) | (refine TF.is ?_; first | refine TF.nil ?_ | refine TF.e rfl ?_ | (refine TF.pick rfl ?_; first | (apply TFo.ev; (case hd => rfl); (case h => (intro wh hF; first | exact ev_simple rfl | (apply Ev.isBin; first | exact ev_neqB (r := xs != ys) rfl rfl rfl) | (apply Ev.isLoad; first | exact ev_loadFr hF rfl (by refine ⟨?_, ?_⟩; (focus (repeat (first | exact InV.head | apply InV.tail))); rfl)) | exact ev_fieldAddr rfl))))) | (refine T.is ?_; first | refine T.seq ?_ | refine T.region ?_ | refine T.cond_f rfl ?_ | refine T.ret ?_ | refine T.skip ?_ | (refine T.regionFs [b4, b5] hF (by repeat (first | (apply Outs.drop; (focus (first | exact OutM.head | exact OutM.tail OutM.head | exact OutM.tail (OutM.tail OutM.head)))) | apply Outs.keep | exact Outs.nil)) 4 14 (.s 0 (.s 1 (.s 2 (.s 3 (.s 4 (.s 5 (.s 7 (.s 8 (.s 9 (.e 6 (.e 10 (.e 11 (.e 12 (.s 13 .nil)))))))))))))) mixed (by kernel_rfl) ?_; clear hF; intro wr hF)) | (refine G.is ?_; first | refine G.next ?_ | refine G.only ?_ | refine G.tree rfl (hF.weak (by repeat (first | exact List.Sublist.refl _ | apply List.Sublist.cons_cons | apply List.Sublist.cons)) (by repeat (first | exact allR | apply allT))) ?_) | refine TL.nil ?_)
  exact G.retC3 rfl rfl rfl rfl (held_agg (hF.var (b := b4) (by repeat (first | exact InV.head | apply InV.tail))) rfl) (held_agg (hF.var (b := b5) (by repeat (first | exact InV.head | apply InV.tail))) rfl) ⟨⟨(xs != ys) && decide (0 < n3), ⟨A3, n3, c3, _⟩⟩, ⟨xs && decide (0 < n4), ⟨A4, n4, c4, _⟩⟩, rfl, Fr.li hF (by repeat (first | exact memH | apply memT)), Fr.li hF (by repeat (first | exact memH | apply memT)), hF.ext, hK3, hK4⟩
theorem sgn_floor {xs : Bool} {a b : Nat} (hb : 0 < b) : (sgn xs (a % b) < 0 → sgn xs a / (b : Int) = sgn (xs != false) (a / b) - 1 ∧ sgn xs a % (b : Int) = sgn xs (a % b) + b) ∧ (¬ sgn xs (a % b) < 0 → sgn xs a / (b : Int) = sgn (xs != false) (a / b) ∧ sgn xs a % (b : Int) = sgn xs (a % b)) := by
  have h := Nat.div_add_mod a b
  have hm := Nat.mod_lt a hb
  obtain ⟨q, hq⟩ : ∃ q, a / b = q := ⟨_, rfl⟩
  obtain ⟨r, hr⟩ : ∃ r, a % b = r := ⟨_, rfl⟩
  rw [hq, hr] at h
  rw [hr] at hm
  rw [hq, hr]
  have hz : (a : Int) = b * q + r := by rw [← Int.natCast_mul, ← Int.natCast_add, h]
  have hb' : (0 : Int) < b := by omega
  have e1 : ∀ (x c d : Int), x = b * c + d → 0 ≤ d → d < b → x / b = c ∧ x % b = d := fun x c d e h0 h1 => by
    subst e
    constructor
    · rw [Int.mul_add_ediv_left _ _ (by omega), Int.ediv_eq_zero_of_lt h0 h1, Int.add_zero]
    · rw [Int.mul_add_emod_self_left, Int.emod_eq_of_lt h0 h1]
  cases xs with
  | false =>
    refine ⟨fun hh => ?_, fun _ => ?_⟩
    · simp [sgn] at hh; omega
    · exact e1 _ _ _ (by simp [sgn]; exact hz) (by simp [sgn]) (by simp [sgn]; exact hm)
  | true =>
    refine ⟨fun hh => ?_, fun hh => ?_⟩
    · have hr0 : 0 < r := by simp [sgn] at hh; omega
      refine e1 _ _ _ (by simp [sgn]; rw [hz, Int.mul_sub, Int.mul_neg]; omega) (by simp [sgn]; omega) (by simp [sgn]; omega)
    · have hr0 : r = 0 := by simp [sgn] at hh; omega
      subst hr0
      refine e1 _ _ _ (by simp [sgn]; rw [hz]; simp [Int.mul_neg]) (by simp [sgn]) (by simp [sgn]; omega)
theorem ival_pos {y : IV} (h : 0 < ival y) : y.neg = false ∧ ival y = (val y.m.l : Int) ∧ 0 < val y.m.l := by
  unfold ival sgn at *
  cases hn : y.neg
  · rw [hn] at h; simp at h ⊢; omega
  · rw [hn] at h; simp at h; omega
theorem ival_sgn (x : IV) : ival x = sgn x.neg (val x.m.l) := rfl
theorem LI.n0 {H : Array Obj} {x : IV} {z : Int} (h : LI H z x) : x.m.n = 0 ↔ z = 0 := by
  rw [← h.g.s.len, h.d]
  constructor
  · intro e
    have := dig_nil e
    omega
  · intro e; subst e; simp [dig_zero]
set_option maxRecDepth 100000 in
set_option maxHeartbeats 8000000 in
theorem zfloor_ok (w : World) (x y : IV) (gx : GI w.heap x) (gy : GI w.heap y) (hx : x.m.n ≤ 8796093022208) (hy : y.m.n ≤ 8796093022208) (h0 : 0 < ival y) :
    Cl Tryz.prog 73 #[.agg (ivc x).toArray, .agg (ivc y).toArray] w (RetQR w (ival x / ival y) (ival x % ival y) (x.m.n + 2) (max (x.m.n + 1) y.m.n + 1)) := by
  obtain ⟨e1, e2, e3⟩ := ival_pos h0
  have ht := fun w1 (hE : Ext w w1) => ztrunc_ok w1 x y (gx.ext hE) (gy.ext hE) hx hy (by omega)
  obtain ⟨f1, f2⟩ := sgn_floor (xs := x.neg) (a := val x.m.l) e3
  rw [← ival_sgn, ← e2] at f1 f2
  obtain ⟨xs, ⟨xA, xn, xc, xl⟩⟩ := x
  obtain ⟨ys, ⟨yA, yn, yc, yl⟩⟩ := y
  dsimp only at e1 e3 ht hx hy f1 f2 ⊢
  subst e1
  have gy' := gy
  generalize hQ : sgn (xs != false) (val xl / val yl) = Q at *
  generalize hR : sgn xs (val xl % val yl) = R at *
  by_cases hneg : R < 0
  · obtain ⟨g1, g2⟩ := f1 hneg
    rw [g1, g2]
    refine enter Tryz.func73 rfl rfl rfl ?_
    have hF := Fr.addGI (Fr.refl w) gy
    repeat' (first | (refine TL.isOp ?_; first | (refine TL.isG ?_; first | refine TL.grun rfl rfl rfl ?_ | refine TL.gskip rfl rfl rfl rfl ?_) | (refine TL.isCall ?_; refine TL.call rfl rfl ?_; first | (refine (ht _ hF.ext).mono ?_; rintro _ wl ⟨⟨qs, ⟨qA, qn, qc, ql⟩⟩, ⟨rs, ⟨rA, rn, rc, rl⟩⟩, rfl, hLq, hLr, hE, hKq, hKr⟩; have hrs := hLr.e; have hrn := hLr.n0; have hqv := hLq.val; have hrv := hLr.val; dsimp only at hrs hrn hKq hKr; rw [decide_eq_true hneg] at hrs; subst hrs; have hrp : 0 < rn := (by have h9 : rn ≠ 0 := (fun h => by have := hrn.1 h; omega); omega); clear hrn; replace hF := Fr.addLI (Fr.addLI (hF.exts hE) hLq) hLr; clear hLq hLr hE; refine Back.mk ?_) | (refine (of1_ok _).mono ?_; rintro _ w1 ⟨u, rfl, hL1, hE, hK1⟩; replace hF := Fr.addLI (hF.exts hE) hL1; clear hL1 hE; refine Back.mk ?_) | (refine (zsub_ok _ ⟨qs, ⟨qA, qn, qc, ql⟩⟩ u (Fr.li hF (z := Q) (by repeat (first | exact memH | apply memT))).g (Fr.li hF (z := 1) (by repeat (first | exact memH | apply memT))).g (by dsimp only; omega) (by omega)).mono ?_; rintro _ w2 ⟨v, rfl, hL2, hE, hK2⟩; rw [hqv, (Fr.li hF (x := u) (z := 1) (by repeat (first | exact memH | apply memT))).val] at hL2; dsimp only at hK2; replace hF := Fr.addLI (hF.exts hE) hL2; clear hL2 hE; refine Back.mk ?_) | (refine (zadd_ok _ ⟨true, ⟨rA, rn, rc, rl⟩⟩ ⟨false, ⟨yA, yn, yc, yl⟩⟩ (Fr.li hF (z := R) (by repeat (first | exact memH | apply memT))).g (Fr.gi hF (by repeat (first | exact memH | apply memT))) (by dsimp only; omega) (by dsimp only; omega)).mono ?_; rintro _ w3 ⟨v3, rfl, hL3, hE, hK3⟩; rw [hrv, e2] at hL3; dsimp only at hK3; replace hF := Fr.addLI (hF.exts hE) hL3; clear hL3 hE; refine Back.mk ?_)) | (refine TL.isBin ?_; refine TL.cmpG rfl rfl rfl rfl (fun hc => ?_) (fun hc => ?_) <;> (try (first | (exfalso; omega) | exact absurd rfl hc))) | (apply TL.ev; (case hd => rfl); (case h => (first | exact ev_simple rfl | (apply Ev.isBin; first | exact ev_neqB (r := true) rfl rfl rfl) | (apply Ev.isLoad; first | exact ev_loadFr hF rfl (by refine ⟨?_, ?_⟩; (focus (repeat (first | exact InV.head | apply InV.tail))); rfl) | exact ev_loadAFr hF rfl (by refine ⟨?_, ?_⟩; (focus (repeat (first | exact InV.head | apply InV.tail))); rfl)) | exact ev_len rfl | exact ev_fieldAddr rfl))) | (refine TL.storeAFr hF rfl rfl rfl rfl (by refine ⟨?_, ?_⟩; (focus (repeat (first | apply SetV.head | apply SetV.tail))); rfl) rfl ?_; clear hF; intro ws hF) | (refine TL.boxAFr hF (d := 2) (cs := [.bool xs, .slice xA xn xc]) rfl rfl ?_; clear hF; intro w2 b2 hF) | (refine TL.boxAFr hF (d := 3) (cs := [.bool false, .slice yA yn yc]) rfl rfl ?_; clear hF; intro w3 b3 hF) | (refine TL.allocFr hF (d := 4) rfl rfl ?_; clear hF; intro w4 b4 hF) | (refine TL.allocFr hF (d := 5) rfl rfl ?_; clear hF; intro w5 b5 hF) | (refine TL.allocFr hF (d := 7) rfl rfl ?_; clear hF; intro w7 b7 hF) | (refine TL.allocFr hF (d := 8) rfl rfl ?_; clear hF; intro w8 b8 hF)) | (refine TF.is ?_; first | refine TF.nil ?_ | refine TF.e rfl ?_ | (refine TF.pick rfl ?_; first | (apply TFo.ev; (case hd => rfl); (case h => (intro wh hF; first | exact ev_simple rfl | (apply Ev.isLoad; first | exact ev_loadAFr hF rfl (by refine ⟨?_, ?_⟩; (focus (repeat (first | exact InV.head | apply InV.tail))); rfl))))))) | (refine T.is ?_; first | refine T.seq ?_ | refine T.region ?_ | refine T.cond_t rfl ?_ | refine T.cond_f rfl ?_ | refine T.ret ?_ | refine T.skip ?_ | (refine T.regionFr hF 3 3 (.s 0 (.e 1 (.e 2 (.e 3 .nil)))) mixed (by kernel_rfl) ?_; clear hF; intro wr hF) | (refine T.regionFs [b4, b5] hF (by repeat (first | (apply Outs.drop; (focus (first | exact OutM.head | exact OutM.tail OutM.head | exact OutM.tail (OutM.tail OutM.head)))) | apply Outs.keep | exact Outs.nil)) 5 6 (.s 0 (.s 1 (.s 2 (.e 3 (.e 4 (.s 5 .nil)))))) mixed (by kernel_rfl) ?_; clear hF; intro wr hF)) | (refine G.is ?_; first | refine G.next ?_ | refine G.only ?_ | refine G.treeEnd rfl ?_ | refine G.tree rfl (hF.weak (by repeat (first | exact List.Sublist.refl _ | apply List.Sublist.cons_cons | apply List.Sublist.cons)) (by repeat (first | exact allR | apply allT))) ?_) | refine TL.nil ?_)
    rotate_left
    · exfalso; dsimp only at *; omega
    all_goals exact G.retC3 rfl rfl rfl rfl (held_agg (hF.var (b := b4) (by repeat (first | exact InV.head | apply InV.tail))) rfl) (held_agg (hF.var (b := b5) (by repeat (first | exact InV.head | apply InV.tail))) rfl) ⟨v, v3, rfl, Fr.li hF (by repeat (first | exact memH | apply memT)), by rw [e2]; exact Fr.li hF (by repeat (first | exact memH | apply memT)), hF.ext, by omega, by omega⟩
  · obtain ⟨g1, g2⟩ := f2 hneg
    rw [g1, g2]
    refine enter Tryz.func73 rfl rfl rfl ?_
    have hF := Fr.refl w
    repeat' (first | (refine TL.isOp ?_; first | (refine TL.isG ?_; first | refine TL.grun rfl rfl rfl ?_ | refine TL.gskip rfl rfl rfl rfl ?_) | (refine TL.isCall ?_; refine TL.call rfl rfl ?_; first | (refine (ht _ hF.ext).mono ?_; rintro _ wl ⟨⟨qs, ⟨qA, qn, qc, ql⟩⟩, ⟨rs, ⟨rA, rn, rc, rl⟩⟩, rfl, hLq, hLr, hE, hKq, hKr⟩; have hrs := hLr.e; dsimp only at hrs hKq hKr; rw [decide_eq_false hneg] at hrs; subst hrs; replace hF := Fr.addLI (Fr.addLI (hF.exts hE) hLq) hLr; clear hLq hLr hE; refine Back.mk ?_)) | (refine TL.isBin ?_; refine TL.cmpG rfl rfl rfl rfl (fun hc => ?_) (fun hc => ?_) <;> (try (first | (exfalso; omega) | exact absurd rfl hc))) | (apply TL.ev; (case hd => rfl); (case h => (first | exact ev_simple rfl | (apply Ev.isBin; first | exact ev_neqB (r := false) rfl rfl rfl) | (apply Ev.isLoad; first | exact ev_loadFr hF rfl (by refine ⟨?_, ?_⟩; (focus (repeat (first | exact InV.head | apply InV.tail))); rfl) | exact ev_loadAFr hF rfl (by refine ⟨?_, ?_⟩; (focus (repeat (first | exact InV.head | apply InV.tail))); rfl)) | exact ev_len rfl | exact ev_fieldAddr rfl))) | (refine TL.storeAFr hF rfl rfl rfl rfl (by refine ⟨?_, ?_⟩; (focus (repeat (first | apply SetV.head | apply SetV.tail))); rfl) rfl ?_; clear hF; intro ws hF) | (refine TL.boxAFr hF (d := 2) (cs := [.bool xs, .slice xA xn xc]) rfl rfl ?_; clear hF; intro w2 b2 hF) | (refine TL.boxAFr hF (d := 3) (cs := [.bool false, .slice yA yn yc]) rfl rfl ?_; clear hF; intro w3 b3 hF) | (refine TL.allocFr hF (d := 4) rfl rfl ?_; clear hF; intro w4 b4 hF) | (refine TL.allocFr hF (d := 5) rfl rfl ?_; clear hF; intro w5 b5 hF) | (refine TL.allocFr hF (d := 7) rfl rfl ?_; clear hF; intro w7 b7 hF) | (refine TL.allocFr hF (d := 8) rfl rfl ?_; clear hF; intro w8 b8 hF)) | (refine TF.is ?_; first | refine TF.nil ?_ | refine TF.e rfl ?_ | (refine TF.pick rfl ?_; first | (apply TFo.ev; (case hd => rfl); (case h => (intro wh hF; first | exact ev_simple rfl | (apply Ev.isLoad; first | exact ev_loadAFr hF rfl (by refine ⟨?_, ?_⟩; (focus (repeat (first | exact InV.head | apply InV.tail))); rfl))))))) | (refine T.is ?_; first | refine T.seq ?_ | refine T.region ?_ | refine T.cond_f rfl ?_ | refine T.ret ?_ | refine T.skip ?_ | (refine T.regionFs [b4, b5] hF (by repeat (first | (apply Outs.drop; (focus (first | exact OutM.head | exact OutM.tail OutM.head | exact OutM.tail (OutM.tail OutM.head)))) | apply Outs.keep | exact Outs.nil)) 5 6 (.s 0 (.s 1 (.s 2 (.e 3 (.e 4 (.s 5 .nil)))))) mixed (by kernel_rfl) ?_; clear hF; intro wr hF)) | (refine G.is ?_; first | refine G.next ?_ | refine G.only ?_ | refine G.tree rfl (hF.weak (by repeat (first | exact List.Sublist.refl _ | apply List.Sublist.cons_cons | apply List.Sublist.cons)) (by repeat (first | exact allR | apply allT))) ?_) | refine TL.nil ?_)
    all_goals exact G.retC3 rfl rfl rfl rfl (held_agg (hF.var (b := b4) (by repeat (first | exact InV.head | apply InV.tail))) rfl) (held_agg (hF.var (b := b5) (by repeat (first | exact InV.head | apply InV.tail))) rfl) ⟨⟨qs, ⟨qA, qn, qc, ql⟩⟩, ⟨false, ⟨rA, rn, rc, rl⟩⟩, rfl, Fr.li hF (by repeat (first | exact memH | apply memT)), Fr.li hF (by repeat (first | exact memH | apply memT)), hF.ext, by dsimp only; omega, by dsimp only; omega⟩
end Go.Proofs.YthlbihbchobllaaGreat

namespace Go.Proofs.YthlbihbchobllaaGreat
open Go Go.Eng Go.Proofs Go.NatM Go.RowKit

theorem dexact_ok (w : World) (B B' : Nat) (A A' : Option Addr) (m c n c' q : Nat) (lx ly : List Nat) (hs : Sl u64v w.heap B A m c lx) (hs' : Sl u64v w.heap B' A' n c' ly) (hu : U64 lx) (hu' : U64 ly) (hm : m ≤ 8796093022208) (hn : n ≤ 8796093022208) (h0 : val ly ≠ 0) (h : val lx = q * val ly) :
    Cl Tryz.prog 86 #[.slice A m c, .slice A' n c'] w (RetNE w (dig q) m 0) := by
  have e1 : val lx / val ly = q := by rw [h]; exact Nat.mul_div_cancel _ (by omega)
  have e2 : val lx % val ly = 0 := by rw [h]; exact Nat.mul_mod_left _ _
  replace hs := hs.size
  replace hs' := hs'.size
  refine enter Tryz.func86 rfl rfl rfl ?_
  have hF := Fr.refl w
  repeat' (first | (refine TL.isOp ?_; first | (refine TL.isCall ?_; refine TL.call rfl rfl ?_; first | (refine (divMod_ok _ _ _ A A' m c n c' lx ly (hs.ext hF.ext) (hs'.ext hF.ext) hu hu' hm hn h0).mono ?_; rintro _ wl ⟨A3, n3, c3, A4, n4, c4, rfl, hO3, hO4, hE, hK3, hK4⟩; rw [e1] at hO3; rw [e2, dig_zero] at hO4; obtain rfl : n4 = 0 := hO4.len.symm; replace hO3 := hO3.mono hF.exs.size; have hE0 := hF.ext.trans hE; clear hF hO4 hE; have hF := Fr.refl wl; refine Back.mk ?_)) | (refine TL.isBin ?_; refine TL.cmpG rfl rfl rfl rfl (fun hc => ?_) (fun hc => ?_) <;> (try (first | (exfalso; omega) | exact absurd rfl hc))) | (apply TL.ev; (case hd => rfl); (case h => (first | exact ev_simple rfl | exact ev_len rfl)))) | (refine T.is ?_; first | refine T.seq ?_ | refine T.region ?_ | refine T.cond_f rfl ?_ | refine T.ret ?_ | refine T.skip ?_) | (refine G.is ?_; first | refine G.next ?_) | refine TL.nil ?_)
  exact G.ret2 rfl rfl rfl (RetNE.mk (hO3.ext hF.ext) (hE0.trans hF.ext) hK3)
theorem sgn_div {a b : Bool} {m n : Nat} {q : Int} (hn : n ≠ 0) (h : sgn a m = q * sgn b n) : sgn (a != b) q.natAbs = q ∧ m = q.natAbs * n := by
  have e1 : m = q.natAbs * n := by
    have := congrArg Int.natAbs h
    rwa [Int.natAbs_mul, sgn_abs, sgn_abs] at this
  refine ⟨?_, e1⟩
  have hn' : (0 : Int) < n := by omega
  have hpos : 0 < q → 0 < q * (n : Int) := fun h => Int.mul_pos h hn'
  have hneg : q < 0 → q * (n : Int) < 0 := fun h => Int.mul_neg_of_neg_of_pos h hn'
  unfold sgn at h ⊢
  cases a <;> cases b <;> simp only [if_true, if_false, Bool.false_eq_true, bne_self_eq_false, Bool.true_bne, Bool.false_bne, Bool.not_true, Bool.not_false, Bool.bne_true, Bool.bne_false, Int.mul_neg] at h ⊢ <;>
    (rcases Int.lt_trichotomy q 0 with h1 | h1 | h1
     · have := hneg h1; omega
     · subst h1; rfl
     · have := hpos h1; omega)
set_option maxRecDepth 100000 in
theorem zexact_ok (w : World) (x y : IV) (q : Int) (gx : GI w.heap x) (gy : GI w.heap y) (hx : x.m.n ≤ 8796093022208) (hy : y.m.n ≤ 8796093022208) (hy0 : ival y ≠ 0) (h : ival x = q * ival y) :
    Cl Tryz.prog 76 #[.agg (ivc x).toArray, .agg (ivc y).toArray] w (RetZE w q x.m.n) := by
  have hs := gx.s
  have hu := gx.u
  have hs' := gy.s
  have hu' := gy.u
  have hvy : val y.m.l ≠ 0 := fun e => hy0 (by unfold ival; rw [e]; unfold sgn; split <;> rfl)
  obtain ⟨e1, e2⟩ := sgn_div hvy h
  clear h hy0 gx gy
  obtain ⟨xs, ⟨xA, xn, xc, xl⟩⟩ := x
  obtain ⟨ys, ⟨yA, yn, yc, yl⟩⟩ := y
  dsimp only at hs hu hs' hu' hvy e1 e2 hx hy
  refine enter Tryz.func76 rfl rfl rfl ?_
  have hF := Fr.refl w
  repeat' (first | (refine TL.isOp ?_; first | (refine TL.isCall ?_; refine TL.call rfl rfl ?_; first | (refine (dexact_ok _ _ _ xA yA xn xc yn yc q.natAbs xl yl (hs.ext hF.ext) (hs'.ext hF.ext) hu hu' hx hy hvy e2).mono ?_; rintro _ wl ⟨A3, n3, c3, rfl, hO3, hE3, hK3⟩; have hS3 := hO3.sl (Nat.le_refl _); replace hF := Fr.addSl (hF.exts hE3) hS3; clear hO3 hS3 hE3; refine Back.mk ?_) | (refine (of_ok _ (xs != ys) A3 n3 c3 q.natAbs (Fr.sl hF (by repeat (first | exact memH | apply memT)))).mono ?_; rintro _ wo ⟨rfl, hLo, hEo⟩; rw [e1] at hLo; replace hF := Fr.addLI (hF.exts hEo) hLo; clear hLo hEo; refine Back.mk ?_)) | (refine TL.isBin ?_; refine TL.cmpG rfl rfl rfl rfl (fun hc => ?_) (fun hc => ?_) <;> (try (first | (exfalso; omega) | exact absurd rfl hc))) | (apply TL.ev; (case hd => rfl); (case h => (first | exact ev_simple rfl | (apply Ev.isBin; first | exact ev_neqB (r := xs != ys) rfl rfl rfl) | (apply Ev.isLoad; first | exact ev_loadFr hF rfl (by refine ⟨?_, ?_⟩; (focus (repeat (first | exact InV.head | apply InV.tail))); rfl)) | exact ev_fieldAddr rfl))) | (refine TL.storeAFr hF rfl rfl rfl rfl (by refine ⟨?_, ?_⟩; (focus (repeat (first | apply SetV.head | apply SetV.tail))); rfl) rfl ?_; clear hF; intro ws hF) | (refine TL.boxAFr hF (d := 2) (cs := [.bool xs, .slice xA xn xc]) rfl rfl ?_; clear hF; intro w2 b2 hF) | (refine TL.boxAFr hF (d := 3) (cs := [.bool ys, .slice yA yn yc]) rfl rfl ?_; clear hF; intro w3 b3 hF) | (refine TL.allocFr hF (d := 4) rfl rfl ?_; clear hF; intro w4 b4 hF)) | (refine T.is ?_; first | refine T.seq ?_ | refine T.region ?_ | refine T.cond_f rfl ?_ | refine T.ret ?_ | refine T.skip ?_) | (refine G.is ?_; first | refine G.next ?_) | refine TL.nil ?_)
  exact G.retC2 rfl rfl rfl (held_agg (hF.var (b := b4) (by repeat (first | exact InV.head | apply InV.tail))) rfl) ⟨⟨(xs != ys) && decide (0 < n3), ⟨A3, n3, c3, _⟩⟩, rfl, Fr.li hF (by repeat (first | exact memH | apply memT)), hF.ext, hK3⟩
end Go.Proofs.YthlbihbchobllaaGreat

namespace Go.Proofs.YthlbihbchobllaaGreat
open Go Go.Eng Go.Proofs Go.NatM Go.RowKit

theorem of0_ok (w : World) : Cl Tryz.prog 35 #[.int .i64 0] w (RetZ w 0 1) := by
  refine enter Tryz.func35 rfl rfl rfl ?_
  repeat' (first | refine TL.ev (ev_simple rfl) rfl ?_ | (refine TL.call rfl rfl ?_; first | (refine (least_ok _ _ _ _ _ _ hSn (U64.one (by omega)) (by omega)).mono ?_; rintro _ wl ⟨Al, nl, cl, rfl, hOl, hEl, hKl⟩; refine Back.mk ?_; have hSl := hOl.sl (Nat.le_refl _); have hzl := hEl.size) | (refine (of_ok _ _ _ _ _ _ hSl).mono ?_; rintro _ wo ⟨rfl, hLo, hEo⟩; refine Back.mk ?_; have hzo := hEo.size)) | (refine TL.cmpG rfl rfl rfl rfl (fun hc => ?_) (fun hc => ?_) <;> try (exfalso; omega)) | refine TL.ev (ev_convU rfl (by omega)) rfl ?_ | (refine TL.build1U rfl rfl (fun wn bn ebn hBn hEn hzn => ?_); have hSn := hBn.slN (n := 1) (c := 1) rfl (Nat.le_refl _) hBn.lt) | (refine TL.alloc rfl (fun wa ba eba hVa hEa hza => ?_); have hla := box_lo (w0 := w) (by repeat (first | exact Ext.refl _ | (refine Ext.trans ?_ (by assumption)) | (apply ext_upd; assumption; rotate_left; omega))) eba) | (refine TL.storeVX rfl rfl rfl rfl (by refine ⟨?_, ?_⟩; (focus (repeat (first | assumption | (apply Vr.ext; assumption) | (apply Vr.updX; assumption; rotate_left; omega)))); rfl) (fun ws hVs hUs hzs => ?_)) | refine T.seq ?_ | refine T.region ?_ | refine TL.nil ?_ | refine T.cond_f rfl ?_ | refine T.ret ?_ | refine T.skip ?_ | refine G.next ?_)
  exact G.retC1 rfl rfl (held_agg hVs rfl) ⟨_, rfl, LI.updV hUs (by repeat (first | assumption | (apply Vr.ext; assumption) | (apply Vr.updX; assumption; rotate_left; omega))) rfl hLo, (by repeat (first | exact Ext.refl _ | (refine Ext.trans ?_ (by assumption)) | (apply ext_upd; assumption; rotate_left; omega))), hKl⟩
theorem zabs_ok (w : World) (x : IV) (gx : GI w.heap x) (hx : x.m.n ≤ 35184372088832) : Cl Tryz.prog 84 #[.agg (ivc x).toArray] w (RetZ w (Go.Det.az (ival x)) x.m.n) := by
  have e : Go.Det.az (ival x) = sgn false (val x.m.l) := by unfold Go.Det.az; rw [ival_abs]; rfl
  rw [e]
  have hs := gx.s
  have hu := gx.u
  obtain ⟨xn, ⟨A, n, c, l⟩⟩ := x
  dsimp only at hs hu hx ⊢
  refine enter Tryz.func84 rfl rfl rfl ?_
  have hF := Fr.refl w
  repeat' (first | (refine TL.isOp ?_; first | (refine TL.isCall ?_; refine TL.call rfl rfl ?_; first | (refine (least_ok _ _ _ _ _ _ (hs.ext hF.ext) hu hx).mono ?_; rintro _ wl ⟨Al, nl, cl, rfl, hOl, hEl, hKl⟩; have hSl := hOl.sl (Nat.le_refl _); replace hF := Fr.addSl (hF.exts hEl) hSl; clear hOl hEl; refine Back.mk ?_) | (refine (of_ok _ _ _ _ _ _ (Fr.sl hF (by repeat (first | exact memH | apply memT)))).mono ?_; rintro _ wo ⟨rfl, hLo, hEo⟩; replace hF := Fr.addLI (hF.exts hEo) hLo; clear hLo hEo; refine Back.mk ?_)) | (apply TL.ev; (case hd => rfl); (case h => (first | (apply Ev.isLoad; first | exact ev_loadFr hF rfl (by refine ⟨?_, ?_⟩; (focus (repeat (first | exact InV.head | apply InV.tail))); rfl)) | exact ev_fieldAddr rfl))) | (refine TL.storeAFr hF rfl rfl rfl rfl (by refine ⟨?_, ?_⟩; (focus (repeat (first | apply SetV.head | apply SetV.tail))); rfl) rfl ?_; clear hF; intro ws hF) | (refine TL.boxAFr hF (d := 1) (cs := [.bool xn, .slice A n c]) rfl rfl ?_; clear hF; intro w1 b1 hF) | (refine TL.allocFr hF (d := 2) rfl rfl ?_; clear hF; intro w2 b2 hF)) | (refine T.is ?_; first | refine T.seq ?_ | refine T.region ?_ | refine T.ret ?_) | (refine G.is ?_; first | refine G.next ?_) | refine TL.nil ?_)
  exact G.retC1 rfl rfl (held_agg (hF.var (by repeat (first | exact InV.head | apply InV.tail))) rfl) ⟨_, rfl, Fr.li hF (by repeat (first | exact memH | apply memT)), hF.ext, hKl⟩
/-- .. the rest alone -/
def RetR (w : World) (r : Int) (K : Nat) (e : Ending) (w' : World) : Prop := ∃ x y : IV, e = .returned (.tuple #[.agg (ivc x).toArray, .agg (ivc y).toArray, .int .i64 0]) ∧ LI w'.heap r y ∧ Ext w w' ∧ y.m.n ≤ K
theorem emod_abs (x : Int) (y : IV) : x % ival y = x % (val y.m.l : Int) := by
  unfold ival sgn
  split
  · exact Int.emod_neg x _
  · rfl
set_option maxRecDepth 100000 in
set_option maxHeartbeats 8000000 in
theorem zeuclid_ok (w : World) (x y : IV) (gx : GI w.heap x) (gy : GI w.heap y) (hx : x.m.n ≤ 8796093022208) (hy : y.m.n ≤ 8796093022208) (h0 : ival y ≠ 0) :
    Cl Tryz.prog 94 #[.agg (ivc x).toArray, .agg (ivc y).toArray] w (RetR w (ival x % ival y) (max (x.m.n + 1) y.m.n + 1)) := by
  have hb : 0 < val y.m.l := by
    have := ival_abs y
    omega
  have ht := fun w1 (hE : Ext w w1) => ztrunc_ok w1 x y (gx.ext hE) (gy.ext hE) hx hy (by omega)
  obtain ⟨f1, f2⟩ := sgn_floor (xs := x.neg) (a := val x.m.l) hb
  rw [← ival_sgn] at f1 f2
  rw [emod_abs]
  have hyv : ival y = if y.neg then -(val y.m.l : Int) else (val y.m.l : Int) := rfl
  obtain ⟨xs, ⟨xA, xn, xc, xl⟩⟩ := x
  obtain ⟨ys, ⟨yA, yn, yc, yl⟩⟩ := y
  dsimp only at hb ht hx hy f1 f2 hyv ⊢
  generalize hQ : sgn (xs != ys) (val xl / val yl) = Q at *
  generalize hR : sgn xs (val xl % val yl) = R at *
  by_cases hneg : R < 0
  · rw [(f1 hneg).2]
    cases ys with
    | false =>
      simp only [Bool.false_eq_true, if_false] at hyv
      refine enter Tryz.func94 rfl rfl rfl ?_
      have hF := Fr.addGI (Fr.refl w) gy
      repeat' (first | (refine TL.isOp ?_; first | (refine TL.isG ?_; first | refine TL.grun rfl rfl rfl ?_) | (refine TL.isCall ?_; refine TL.call rfl rfl ?_; first | (refine (ht _ hF.ext).mono ?_; rintro _ wl ⟨⟨qs, ⟨qA, qn, qc, ql⟩⟩, ⟨rs, ⟨rA, rn, rc, rl⟩⟩, rfl, hLq, hLr, hE, hKq, hKr⟩; have hrs := hLr.e; have hqv := hLq.val; have hrv := hLr.val; dsimp only at hrs hKq hKr; rw [decide_eq_true hneg] at hrs; subst hrs; replace hF := Fr.addLI (Fr.addLI (hF.exts hE) hLq) hLr; clear hLq hLr hE; refine Back.mk ?_) | (refine (of1_ok _).mono ?_; rintro _ w1 ⟨u, rfl, hL1, hE, hK1⟩; replace hF := Fr.addLI (hF.exts hE) hL1; clear hL1 hE; refine Back.mk ?_) | (refine (zsub_ok _ ⟨qs, ⟨qA, qn, qc, ql⟩⟩ u (Fr.li hF (z := Q) (by repeat (first | exact memH | apply memT))).g (Fr.li hF (z := 1) (by repeat (first | exact memH | apply memT))).g (by dsimp only; omega) (by omega)).mono ?_; rintro _ w2 ⟨v, rfl, hL2, hE, hK2⟩; replace hF := Fr.addLI (hF.exts hE) hL2; clear hL2 hE; refine Back.mk ?_) | (refine (zadd_ok _ ⟨true, ⟨rA, rn, rc, rl⟩⟩ ⟨false, ⟨yA, yn, yc, yl⟩⟩ (Fr.li hF (z := R) (by repeat (first | exact memH | apply memT))).g (Fr.gi hF (by repeat (first | exact memH | apply memT))) (by dsimp only; omega) (by dsimp only; omega)).mono ?_; rintro _ w3 ⟨v3, rfl, hL3, hE, hK3⟩; rw [hrv, hyv] at hL3; dsimp only at hK3; replace hF := Fr.addLI (hF.exts hE) hL3; clear hL3 hE; refine Back.mk ?_)) | (refine TL.isBin ?_; refine TL.cmpG rfl rfl rfl rfl (fun hc => ?_) (fun hc => ?_) <;> (try (first | (exfalso; omega) | exact absurd rfl hc))) | (apply TL.ev; (case hd => rfl); (case h => (first | exact ev_simple rfl | (apply Ev.isLoad; first | exact ev_loadFr hF rfl (by refine ⟨?_, ?_⟩; (focus (repeat (first | exact InV.head | apply InV.tail))); rfl) | exact ev_loadAFr hF rfl (by refine ⟨?_, ?_⟩; (focus (repeat (first | exact InV.head | apply InV.tail))); rfl)) | exact ev_fieldAddr rfl))) | (refine TL.storeAFr hF rfl rfl rfl rfl (by refine ⟨?_, ?_⟩; (focus (repeat (first | apply SetV.head | apply SetV.tail))); rfl) rfl ?_; clear hF; intro ws hF) | (refine TL.boxAFr hF (d := 2) (cs := [.bool xs, .slice xA xn xc]) rfl rfl ?_; clear hF; intro w2 b2 hF) | (refine TL.boxAFr hF (d := 3) (cs := [.bool false, .slice yA yn yc]) rfl rfl ?_; clear hF; intro w3 b3 hF) | (refine TL.allocFr hF (d := 4) rfl rfl ?_; clear hF; intro w4 b4 hF) | (refine TL.allocFr hF (d := 5) rfl rfl ?_; clear hF; intro w5 b5 hF) | (refine TL.allocFr hF (d := 7) rfl rfl ?_; clear hF; intro w7 b7 hF) | (refine TL.allocFr hF (d := 8) rfl rfl ?_; clear hF; intro w8 b8 hF)) | (refine TF.is ?_; first | refine TF.nil ?_ | refine TF.e rfl ?_ | (refine TF.pick rfl ?_; first | (apply TFo.ev; (case hd => rfl); (case h => (intro wh hF; first | exact ev_simple rfl | (apply Ev.isLoad; first | exact ev_loadAFr hF rfl (by refine ⟨?_, ?_⟩; (focus (repeat (first | exact InV.head | apply InV.tail))); rfl))))))) | (refine T.is ?_; first | refine T.seq ?_ | refine T.region ?_ | refine T.cond_f rfl ?_ | refine T.ret ?_ | refine T.skip ?_ | (refine T.regionFs [b4, b5] hF (by repeat (first | (apply Outs.drop; (focus (first | exact OutM.head | exact OutM.tail OutM.head | exact OutM.tail (OutM.tail OutM.head)))) | apply Outs.keep | exact Outs.nil)) 6 9 (.s 0 (.s 3 (.s 4 (.e 1 (.e 2 (.e 5 (.e 6 (.e 7 (.s 8 .nil))))))))) mixed (by kernel_rfl) ?_; clear hF; intro wr hF)) | (refine G.is ?_; first | refine G.next ?_ | refine G.only ?_ | refine G.tree rfl (hF.weak (by repeat (first | exact List.Sublist.refl _ | apply List.Sublist.cons_cons | apply List.Sublist.cons)) (by repeat (first | exact allR | apply allT))) ?_) | refine TL.nil ?_)
      exact G.retC3 rfl rfl rfl rfl (held_agg (hF.var (b := b4) (by repeat (first | exact InV.head | apply InV.tail))) rfl) (held_agg (hF.var (b := b5) (by repeat (first | exact InV.head | apply InV.tail))) rfl) ⟨v, v3, rfl, Fr.li hF (by repeat (first | exact memH | apply memT)), hF.ext, by omega⟩
    | true =>
      simp only [if_true] at hyv
      refine enter Tryz.func94 rfl rfl rfl ?_
      have hF := Fr.addGI (Fr.refl w) gy
      have hsub : R + (val yl : Int) = R - ival ⟨true, ⟨yA, yn, yc, yl⟩⟩ := by rw [hyv]; omega
      rw [hsub]
      repeat' (first | (refine TL.isOp ?_; first | (refine TL.isG ?_; first | refine TL.grun rfl rfl rfl ?_) | (refine TL.isCall ?_; refine TL.call rfl rfl ?_; first | (refine (ht _ hF.ext).mono ?_; rintro _ wl ⟨⟨qs, ⟨qA, qn, qc, ql⟩⟩, ⟨rs, ⟨rA, rn, rc, rl⟩⟩, rfl, hLq, hLr, hE, hKq, hKr⟩; have hrs := hLr.e; have hqv := hLq.val; have hrv := hLr.val; dsimp only at hrs hKq hKr; rw [decide_eq_true hneg] at hrs; subst hrs; replace hF := Fr.addLI (Fr.addLI (hF.exts hE) hLq) hLr; clear hLq hLr hE; refine Back.mk ?_) | (refine (of1_ok _).mono ?_; rintro _ w1 ⟨u, rfl, hL1, hE, hK1⟩; replace hF := Fr.addLI (hF.exts hE) hL1; clear hL1 hE; refine Back.mk ?_) | (refine (zadd_ok _ ⟨qs, ⟨qA, qn, qc, ql⟩⟩ u (Fr.li hF (z := Q) (by repeat (first | exact memH | apply memT))).g (Fr.li hF (z := 1) (by repeat (first | exact memH | apply memT))).g (by dsimp only; omega) (by omega)).mono ?_; rintro _ w2 ⟨v, rfl, hL2, hE, hK2⟩; replace hF := Fr.addLI (hF.exts hE) hL2; clear hL2 hE; refine Back.mk ?_) | (refine (zsub_ok _ ⟨true, ⟨rA, rn, rc, rl⟩⟩ ⟨true, ⟨yA, yn, yc, yl⟩⟩ (Fr.li hF (z := R) (by repeat (first | exact memH | apply memT))).g (Fr.gi hF (by repeat (first | exact memH | apply memT))) (by dsimp only; omega) (by dsimp only; omega)).mono ?_; rintro _ w3 ⟨v3, rfl, hL3, hE, hK3⟩; rw [hrv] at hL3; dsimp only at hK3; replace hF := Fr.addLI (hF.exts hE) hL3; clear hL3 hE; refine Back.mk ?_)) | (refine TL.isBin ?_; refine TL.cmpG rfl rfl rfl rfl (fun hc => ?_) (fun hc => ?_) <;> (try (first | (exfalso; omega) | exact absurd rfl hc))) | (apply TL.ev; (case hd => rfl); (case h => (first | exact ev_simple rfl | (apply Ev.isLoad; first | exact ev_loadFr hF rfl (by refine ⟨?_, ?_⟩; (focus (repeat (first | exact InV.head | apply InV.tail))); rfl) | exact ev_loadAFr hF rfl (by refine ⟨?_, ?_⟩; (focus (repeat (first | exact InV.head | apply InV.tail))); rfl)) | exact ev_fieldAddr rfl))) | (refine TL.storeAFr hF rfl rfl rfl rfl (by refine ⟨?_, ?_⟩; (focus (repeat (first | apply SetV.head | apply SetV.tail))); rfl) rfl ?_; clear hF; intro ws hF) | (refine TL.boxAFr hF (d := 2) (cs := [.bool xs, .slice xA xn xc]) rfl rfl ?_; clear hF; intro w2 b2 hF) | (refine TL.boxAFr hF (d := 3) (cs := [.bool true, .slice yA yn yc]) rfl rfl ?_; clear hF; intro w3 b3 hF) | (refine TL.allocFr hF (d := 4) rfl rfl ?_; clear hF; intro w4 b4 hF) | (refine TL.allocFr hF (d := 5) rfl rfl ?_; clear hF; intro w5 b5 hF) | (refine TL.allocFr hF (d := 7) rfl rfl ?_; clear hF; intro w7 b7 hF) | (refine TL.allocFr hF (d := 8) rfl rfl ?_; clear hF; intro w8 b8 hF)) | (refine TF.is ?_; first | refine TF.nil ?_ | refine TF.e rfl ?_ | (refine TF.pick rfl ?_; first | (apply TFo.ev; (case hd => rfl); (case h => (intro wh hF; first | exact ev_simple rfl | (apply Ev.isLoad; first | exact ev_loadAFr hF rfl (by refine ⟨?_, ?_⟩; (focus (repeat (first | exact InV.head | apply InV.tail))); rfl))))))) | (refine T.is ?_; first | refine T.seq ?_ | refine T.region ?_ | refine T.cond_t rfl ?_ | refine T.cond_f rfl ?_ | refine T.ret ?_ | refine T.skip ?_ | (refine T.regionFs [b4, b5] hF (by repeat (first | (apply Outs.drop; (focus (first | exact OutM.head | exact OutM.tail OutM.head | exact OutM.tail (OutM.tail OutM.head)))) | apply Outs.keep | exact Outs.nil)) 5 9 (.s 0 (.s 3 (.s 4 (.e 1 (.e 2 (.e 5 (.e 6 (.e 7 (.s 8 .nil))))))))) mixed (by kernel_rfl) ?_; clear hF; intro wr hF)) | (refine G.is ?_; first | refine G.next ?_ | refine G.thenR ?_ | refine G.only ?_ | refine G.tree rfl (hF.weak (by repeat (first | exact List.Sublist.refl _ | apply List.Sublist.cons_cons | apply List.Sublist.cons)) (by repeat (first | exact allR | apply allT))) ?_) | refine TL.nil ?_)
      exact G.retC3 rfl rfl rfl rfl (held_agg (hF.var (b := b4) (by repeat (first | exact InV.head | apply InV.tail))) rfl) (held_agg (hF.var (b := b5) (by repeat (first | exact InV.head | apply InV.tail))) rfl) ⟨v, v3, rfl, Fr.li hF (by repeat (first | exact memH | apply memT)), hF.ext, by omega⟩
  · rw [(f2 hneg).2]
    refine enter Tryz.func94 rfl rfl rfl ?_
    have hF := Fr.refl w
    repeat' (first | (refine TL.isOp ?_; first | (refine TL.isG ?_; first | refine TL.grun rfl rfl rfl ?_) | (refine TL.isCall ?_; refine TL.call rfl rfl ?_; first | (refine (ht _ hF.ext).mono ?_; rintro _ wl ⟨⟨qs, ⟨qA, qn, qc, ql⟩⟩, ⟨rs, ⟨rA, rn, rc, rl⟩⟩, rfl, hLq, hLr, hE, hKq, hKr⟩; have hrs := hLr.e; dsimp only at hrs hKq hKr; rw [decide_eq_false hneg] at hrs; subst hrs; replace hF := Fr.addLI (Fr.addLI (hF.exts hE) hLq) hLr; clear hLq hLr hE; refine Back.mk ?_)) | (refine TL.isBin ?_; refine TL.cmpG rfl rfl rfl rfl (fun hc => ?_) (fun hc => ?_) <;> (try (first | (exfalso; omega) | exact absurd rfl hc))) | (apply TL.ev; (case hd => rfl); (case h => (first | exact ev_simple rfl | (apply Ev.isLoad; first | exact ev_loadFr hF rfl (by refine ⟨?_, ?_⟩; (focus (repeat (first | exact InV.head | apply InV.tail))); rfl) | exact ev_loadAFr hF rfl (by refine ⟨?_, ?_⟩; (focus (repeat (first | exact InV.head | apply InV.tail))); rfl)) | exact ev_fieldAddr rfl))) | (refine TL.storeAFr hF rfl rfl rfl rfl (by refine ⟨?_, ?_⟩; (focus (repeat (first | apply SetV.head | apply SetV.tail))); rfl) rfl ?_; clear hF; intro ws hF) | (refine TL.boxAFr hF (d := 2) (cs := [.bool xs, .slice xA xn xc]) rfl rfl ?_; clear hF; intro w2 b2 hF) | (refine TL.boxAFr hF (d := 3) (cs := [.bool ys, .slice yA yn yc]) rfl rfl ?_; clear hF; intro w3 b3 hF) | (refine TL.allocFr hF (d := 4) rfl rfl ?_; clear hF; intro w4 b4 hF) | (refine TL.allocFr hF (d := 5) rfl rfl ?_; clear hF; intro w5 b5 hF) | (refine TL.allocFr hF (d := 7) rfl rfl ?_; clear hF; intro w7 b7 hF) | (refine TL.allocFr hF (d := 8) rfl rfl ?_; clear hF; intro w8 b8 hF)) | (refine TF.is ?_; first | refine TF.nil ?_ | refine TF.e rfl ?_ | (refine TF.pick rfl ?_; first | (apply TFo.ev; (case hd => rfl); (case h => (intro wh hF; first | exact ev_simple rfl | (apply Ev.isLoad; first | exact ev_loadAFr hF rfl (by refine ⟨?_, ?_⟩; (focus (repeat (first | exact InV.head | apply InV.tail))); rfl))))))) | (refine T.is ?_; first | refine T.seq ?_ | refine T.region ?_ | refine T.cond_t rfl ?_ | refine T.ret ?_ | (refine T.regionFs [b4, b5] hF (by repeat (first | (apply Outs.drop; (focus (first | exact OutM.head | exact OutM.tail OutM.head | exact OutM.tail (OutM.tail OutM.head)))) | apply Outs.keep | exact Outs.nil)) 3 6 (.s 0 (.s 1 (.s 2 (.e 3 (.e 4 (.s 5 .nil)))))) mixed (by kernel_rfl) ?_; clear hF; intro wr hF)) | (refine G.is ?_; first | refine G.next ?_ | refine G.thenR ?_ | refine G.only ?_ | refine G.tree rfl (hF.weak (by repeat (first | exact List.Sublist.refl _ | apply List.Sublist.cons_cons | apply List.Sublist.cons)) (by repeat (first | exact allR | apply allT))) ?_) | refine TL.nil ?_)
    all_goals exact G.retC3 rfl rfl rfl rfl (held_agg (hF.var (b := b4) (by repeat (first | exact InV.head | apply InV.tail))) rfl) (held_agg (hF.var (b := b5) (by repeat (first | exact InV.head | apply InV.tail))) rfl) ⟨⟨qs, ⟨qA, qn, qc, ql⟩⟩, ⟨false, ⟨rA, rn, rc, rl⟩⟩, rfl, Fr.li hF (by repeat (first | exact memH | apply memT)), hF.ext, by dsimp only; omega⟩
set_option maxRecDepth 100000 in
set_option maxHeartbeats 8000000 in
theorem zmod_ok (w : World) (x y : IV) (gx : GI w.heap x) (gy : GI w.heap y) (hx : x.m.n ≤ 8796093022208) (hy : y.m.n ≤ 8796093022208) (h0 : ival y ≠ 0) :
    Cl Tryz.prog 85 #[.agg (ivc x).toArray, .agg (ivc y).toArray] w (RetZE w (ival x % ival y) (max (x.m.n + 1) y.m.n + 1)) := by
  have ht := fun w1 (hE : Ext w w1) => zeuclid_ok w1 x y (gx.ext hE) (gy.ext hE) hx hy h0
  obtain ⟨xs, ⟨xA, xn, xc, xl⟩⟩ := x
  obtain ⟨ys, ⟨yA, yn, yc, yl⟩⟩ := y
  refine enter Tryz.func85 rfl rfl rfl ?_
  have hF := Fr.refl w
  repeat' (first | (refine TL.isOp ?_; first | (refine TL.isCall ?_; refine TL.call rfl rfl ?_; first | (refine (ht _ hF.ext).mono ?_; rintro _ wl ⟨⟨qs, ⟨qA, qn, qc, ql⟩⟩, r, rfl, hLr, hE, hKr⟩; replace hF := Fr.addLI (hF.exts hE) hLr; clear hLr hE; refine Back.mk ?_)) | (apply TL.ev; (case hd => rfl); (case h => (first | exact ev_simple rfl | (apply Ev.isLoad; first | exact ev_loadAFr hF rfl (by refine ⟨?_, ?_⟩; (focus (repeat (first | exact InV.head | apply InV.tail))); rfl))))) | (refine TL.storeAFr hF rfl rfl rfl rfl (by refine ⟨?_, ?_⟩; (focus (repeat (first | apply SetV.head | apply SetV.tail))); rfl) rfl ?_; clear hF; intro ws hF) | (refine TL.boxAFr hF (d := 2) (cs := [.bool xs, .slice xA xn xc]) rfl rfl ?_; clear hF; intro w2 b2 hF) | (refine TL.boxAFr hF (d := 3) (cs := [.bool ys, .slice yA yn yc]) rfl rfl ?_; clear hF; intro w3 b3 hF) | (refine TL.allocFr hF (d := 4) rfl rfl ?_; clear hF; intro w4 b4 hF) | (refine TL.allocFr hF (d := 6) rfl rfl ?_; clear hF; intro w6 b6 hF) | (refine TL.allocFr hF (d := 7) rfl rfl ?_; clear hF; intro w7 b7 hF)) | (refine T.is ?_; first | refine T.seq ?_ | refine T.region ?_ | refine T.ret ?_) | (refine G.is ?_; first | refine G.next ?_) | refine TL.nil ?_)
  exact G.retC2 rfl rfl rfl (held_agg (hF.var (b := b4) (by repeat (first | exact InV.head | apply InV.tail))) rfl) ⟨r, rfl, Fr.li hF (by repeat (first | exact memH | apply memT)), hF.ext, hKr⟩
end Go.Proofs.YthlbihbchobllaaGreat

namespace Go.Eng
open Go Go.RowKit
section
variable {P : Program} {fn : Func} {R : Ending → World → Prop} {σ : Store} {w : World}
theorem results_ccc {r s q : Tmp} {ty ty' ty'' : TypeId} (h : fn.results = #[.cell r ty, .cell s ty', .cell q ty'']) {tmps : Array Value} {b b' b'' : Nat} {v v' v'' : Value} (hr : tmps.getD r undef = .pointer (some ⟨b, 0, none⟩)) (hs : tmps.getD s undef = .pointer (some ⟨b', 0, none⟩)) (hq : tmps.getD q undef = .pointer (some ⟨b'', 0, none⟩)) (hH : Held P ty w b v) (hH' : Held P ty' w b' v') (hH'' : Held P ty'' w b'' v'') :
    (results fn tmps).run P w = .ok (.tuple #[v, v', v'']) w := by
  unfold Held at hH hH' hH''
  simp [results, h]
  simp only [Array.getD_eq_getD_getElem?] at hr hs hq
  simp [hr, hs, hq, asAddr, hH, hH', hH'']
theorem G.retCCC {n : Nat} {r s q : Nat} {ty ty' ty'' : TypeId} {b b' b'' : Nat} {v v' v'' : Value} (hr : fn.results = #[.cell r ty, .cell s ty', .cell q ty'']) (hp : look1 σ r = some (.pointer (some ⟨b, 0, none⟩))) (hp' : look1 σ s = some (.pointer (some ⟨b', 0, none⟩))) (hp'' : look1 σ q = some (.pointer (some ⟨b'', 0, none⟩)))
    (hH : Held P ty w b v) (hH' : Held P ty' w b' v') (hH'' : Held P ty'' w b'' v'') (h : R (.returned (.tuple #[v, v', v''])) w) : G ⟨n, []⟩ .ret (bodyPost P fn R) σ w := by
  unfold G
  exact fun a ha => bodyPost_ret (results_ccc hr (ha.get r _ hp) (ha.get s _ hp') (ha.get q _ hp'') hH hH' hH'') ha.nodef h
end
end Go.Eng
namespace Go.Proofs.YthlbihbchobllaaGreat
open Go Go.Eng Go.Proofs Go.NatM Go.RowKit Go.Det

theorem li_size {H : Array Obj} {z : Int} {x : IV} (h : LI H z x) : val x.m.l = z.natAbs := by rw [h.d, val_dig]
theorem ztruncP (w : World) (x y : IV) (zx zy : Int) (hx : LI w.heap zx x) (hy : LI w.heap zy y) (h0 : 0 ≤ zx) (h1 : 0 < zy) (hxn : x.m.n ≤ 8796093022208) (hyn : y.m.n ≤ 8796093022208) :
    Cl Tryz.prog 82 #[.agg (ivc x).toArray, .agg (ivc y).toArray] w (RetQR w (zx / zy) (zx % zy) x.m.n (x.m.n + 1)) := by
  have h := ztrunc_ok w x y hx.g hy.g hxn hyn (by rw [(li_size hy)]; omega)
  rw [hx.e, hy.e, decide_eq_false (by omega), decide_eq_false (by omega), (li_size hx), (li_size hy)] at h
  have e1 : sgn (false != false) (zx.natAbs / zy.natAbs) = zx / zy := by
    show ((zx.natAbs / zy.natAbs : Nat) : Int) = _
    rw [Int.natCast_ediv, Int.natAbs_of_nonneg h0, Int.natAbs_of_nonneg (by omega)]
  have e2 : sgn false (zx.natAbs % zy.natAbs) = zx % zy := by
    show ((zx.natAbs % zy.natAbs : Nat) : Int) = _
    rw [Int.natCast_emod, Int.natAbs_of_nonneg h0, Int.natAbs_of_nonneg (by omega)]
  rw [e1, e2] at h
  exact h
def RetExt (w : World) (za zb : Int) (K : Nat) (e : Ending) (w' : World) : Prop :=
  ∃ (g x y : IV) (zg zx zy : Int), e = .returned (.tuple #[.agg (ivc g).toArray, .agg (ivc x).toArray, .agg (ivc y).toArray]) ∧ LI w'.heap zg g ∧ LI w'.heap zx x ∧ LI w'.heap zy y ∧ ExtOk za zb zg zx zy ∧ Ext w w' ∧ g.m.n ≤ K ∧ x.m.n ≤ K ∧ y.m.n ≤ K + 1
/-- a state of the loop -/
structure EuS where
  r0 : Int
  r1 : Int
  m0 : Int
  m1 : Int
  x0 : IV
  x1 : IV
  y0 : IV
  y1 : IV
set_option maxRecDepth 100000 in
set_option maxHeartbeats 16000000 in
theorem zext_ok (w : World) (a b : IV) (za zb : Int) (K : Nat) (ha : LI w.heap za a) (hb : LI w.heap zb b) (hz : zb ≠ 0) (han : a.m.n ≤ K) (hbn : b.m.n ≤ K) (hK : K ≤ 4398046511000) :
    Cl Tryz.prog 75 #[.agg (ivc a).toArray, .agg (ivc b).toArray] w (RetExt w za zb K) := by
  have hWa : za.natAbs < WB ^ K := Nat.lt_of_lt_of_le (by have := ha.g.abs_lt'; rwa [ha.val] at this) (Nat.pow_le_pow_right (by decide) han)
  have hWb : zb.natAbs < WB ^ K := Nat.lt_of_lt_of_le (by have := hb.g.abs_lt'; rwa [hb.val] at this) (Nat.pow_le_pow_right (by decide) hbn)
  obtain ⟨sb, hsb, hsb0⟩ : ∃ sg, sig zb = sg ∧ sg ≠ 0 := ⟨_, rfl, fun h => hz (sig_0.1 h)⟩
  have hF := Fr.addLI (Fr.addLI (Fr.refl w) ha) hb
  have hav := ha.val
  have hbv := hb.val
  clear ha hb
  obtain ⟨an, ⟨aA, am, ac, al⟩⟩ := a
  obtain ⟨bn, ⟨bA, bm, bc, bl⟩⟩ := b
  dsimp only at han hbn
  refine enter Tryz.func75 rfl rfl rfl ?_
  repeat' (first | (refine TL.isOp ?_; first | (refine TL.isCall ?_; refine TL.call rfl rfl ?_; first | (refine (zsignX _ ⟨bn, ⟨bA, bm, bc, bl⟩⟩ (Fr.li hF (z := zb) (by repeat (first | exact memH | apply memT))).g (by dsimp only; omega)).mono ?_; rintro _ w1 ⟨rfl, hE⟩; rw [hbv, hsb]; replace hF := hF.exts hE; clear hE; refine Back.mk ?_) | (refine (zabs_ok _ ⟨an, ⟨aA, am, ac, al⟩⟩ (Fr.li hF (z := za) (by repeat (first | exact memH | apply memT))).g (by dsimp only; omega)).mono ?_; rintro _ w1 ⟨x0, rfl, hLu, hE, hKx0⟩; rw [hav] at hLu; dsimp only at hKx0; replace hF := Fr.addLI (hF.exts hE) hLu; clear hE hLu; refine Back.mk ?_) | (refine (zabs_ok _ ⟨bn, ⟨bA, bm, bc, bl⟩⟩ (Fr.li hF (z := zb) (by repeat (first | exact memH | apply memT))).g (by dsimp only; omega)).mono ?_; rintro _ w1 ⟨x1, rfl, hLu, hE, hKx1⟩; rw [hbv] at hLu; dsimp only at hKx1; replace hF := Fr.addLI (hF.exts hE) hLu; clear hE hLu; refine Back.mk ?_) | (refine (of1_ok _).mono ?_; rintro _ w1 ⟨y0, rfl, hL1, hE, hKy0⟩; replace hF := Fr.addLI (hF.exts hE) hL1; clear hL1 hE; refine Back.mk ?_) | (refine (of0_ok _).mono ?_; rintro _ w1 ⟨y1, rfl, hL1, hE, hKy1⟩; replace hF := Fr.addLI (hF.exts hE) hL1; clear hL1 hE; refine Back.mk ?_)) | (refine TL.isBin ?_; refine TL.cmpG rfl rfl rfl rfl (fun hc => ?_) (fun hc => ?_) <;> (try (first | (exfalso; omega) | exact absurd rfl hc))) | (apply TL.ev; (case hd => rfl); (case h => (first | (apply Ev.isLoad; first | exact ev_loadAFr hF rfl (by refine ⟨?_, ?_⟩; (focus (repeat (first | exact InV.head | apply InV.tail))); rfl)) | exact ev_buildArr rfl rfl))) | (refine TL.storeAFr hF rfl rfl rfl rfl (by refine ⟨?_, ?_⟩; (focus (repeat (first | apply SetV.head | apply SetV.tail))); rfl) rfl ?_; clear hF; intro ws hF) | (refine TL.boxAFr hF (d := 2) (cs := [.bool an, .slice aA am ac]) rfl rfl ?_; clear hF; intro w2 b2 hF) | (refine TL.boxAFr hF (d := 3) (cs := [.bool bn, .slice bA bm bc]) rfl rfl ?_; clear hF; intro w3 b3 hF) | (refine TL.allocFr hF (d := 4) rfl rfl ?_; clear hF; intro w4 b4 hF) | (refine TL.allocFr hF (d := 5) rfl rfl ?_; clear hF; intro w5 b5 hF) | (refine TL.allocFr hF (d := 6) rfl rfl ?_; clear hF; intro w6 b6 hF) | (refine TL.allocFr hF (d := 7) rfl rfl ?_; clear hF; intro w7 b7 hF) | (refine TL.allocFr hF (d := 8) rfl rfl ?_; clear hF; intro w8 b8 hF)) | (refine TF.is ?_; first | refine TF.nil ?_ | refine TF.e rfl ?_ | refine TF.alt ?_ ?_ | (refine TF.pick rfl ?_; first | (apply TFo.ev; (case hd => rfl); (case h => (intro wh hF; first | (apply Ev.isLoad; first | exact ev_loadAFr hF rfl (by refine ⟨?_, ?_⟩; (focus (repeat (first | exact InV.head | apply InV.tail))); rfl)) | exact ev_buildArr rfl rfl))))) | (refine T.is ?_; first | refine T.seq ?_ | refine T.region ?_ | refine T.block ?_ | refine T.cond_f rfl ?_ | refine T.skip ?_ | (refine T.regionFr hF 3 6 (.s 0 (.s 2 (.alt (.e 1 (.alt (.e 3 (.s 4 (.e 5 (.e 6 .nil)))) (.e 5 (.e 3 (.s 4 (.e 6 .nil)))))) (.e 5 (.e 1 (.e 3 (.s 4 (.e 6 .nil)))))))) mixed (by kernel_rfl) ?_; clear hF; intro wr hF)) | (refine G.is ?_; first | refine G.next ?_ | refine G.only ?_ | refine G.treeEnd rfl ?_ | refine G.tree rfl (by first | exact hF | exact hF.weak (List.sublist_append_right _ _) (by repeat (first | exact allR | apply allT)) | exact hF.weak (by repeat (first | exact List.Sublist.refl _ | apply List.Sublist.cons)) (by repeat (first | exact allR | apply allT)) | exact hF.weak (by repeat (first | exact List.Sublist.refl _ | apply List.Sublist.cons)) (by repeat (first | exact allN | refine allH (by repeat (first | exact memH | apply memT)) ?_))) ?_) | refine TL.nil ?_)
  all_goals
    refine T.loop (α := EuS) (fun z => [(7, .pointer (some ⟨b7, 0, none⟩)), (8, .pointer (some ⟨b8, 0, none⟩)), (2, .pointer (some ⟨b2, 0, none⟩)), (3, .pointer (some ⟨b3, 0, none⟩)), (4, .pointer (some ⟨b4, 0, none⟩)), (5, .pointer (some ⟨b5, 0, none⟩)), (6, .pointer (some ⟨b6, 0, none⟩))])
      (fun z w' => Eu (az za) (az zb) z.r0 z.r1 z.m0 z.m1 ∧ (z.r0.natAbs < WB ^ K ∧ z.r1.natAbs < WB ^ K) ∧ (z.x0.m.n ≤ K ∧ z.x1.m.n ≤ K) ∧ (z.y0.m.n ≤ K + 1 ∧ z.y1.m.n ≤ K + 1) ∧ Fr w w' [⟨b8, 83, [.bool z.y0.neg, .slice z.y0.m.A z.y0.m.n z.y0.m.c, .bool z.y1.neg, .slice z.y1.m.A z.y1.m.n z.y1.m.c]⟩, ⟨b7, 83, [.bool z.x0.neg, .slice z.x0.m.A z.x0.m.n z.x0.m.c, .bool z.x1.neg, .slice z.x1.m.A z.x1.m.n z.x1.m.c]⟩, ⟨b6, 43, [.bool false, .slice none 0 0]⟩, ⟨b5, 43, [.bool false, .slice none 0 0]⟩, ⟨b4, 43, [.bool false, .slice none 0 0]⟩, ⟨b3, 43, [.bool bn, .slice bA bm bc]⟩, ⟨b2, 43, [.bool an, .slice aA am ac]⟩]
        [dpLI za ⟨an, ⟨aA, am, ac, al⟩⟩, dpLI zb ⟨bn, ⟨bA, bm, bc, bl⟩⟩, dpLI z.r0 z.x0, dpLI z.r1 z.x1, dpLI z.m0 z.y0, dpLI z.m1 z.y1])
      (fun z => z.r1.toNat) ⟨az za, az zb, 1, 0, x0, x1, y0, y1⟩ (by repeat (first | exact Sub.nil _ | refine Sub.cons rfl ?_ | refine Sub.cons' rfl (int_congr (by omega)) ?_)) ⟨Eu.start (az_nn _) (by unfold az; omega), ⟨by dsimp only; unfold az; omega, by dsimp only; unfold az; omega⟩, ⟨by dsimp only; omega, by dsimp only; omega⟩, ⟨by dsimp only; omega, by dsimp only; omega⟩, hF.weak (.refl _) (allH (by repeat (first | exact memH | apply memT)) (allH (by repeat (first | exact memH | apply memT)) (allH (by repeat (first | exact memH | apply memT)) (allH (by repeat (first | exact memH | apply memT)) (allH (by repeat (first | exact memH | apply memT)) (allH (by repeat (first | exact memH | apply memT)) allN))))))⟩ ?_
    clear hF
    rintro ⟨r0, r1, m0, m1, x0, x1, y0, y1⟩ w2 ⟨hEu, ⟨hr0, hr1⟩, ⟨hx0, hx1⟩, ⟨hy0, hy1⟩, hF⟩
    dsimp only at hEu hr0 hr1 hx0 hx1 hy0 hy1 hF ⊢
    have hn0 := hEu.n0
    have hn1 := hEu.n1
    by_cases h1 : r1 = 0
    · subst h1
      have hs1 : sig 0 = 0 := rfl
      have hfin := Eu.fin hz hEu
      obtain ⟨⟨hg0, hgb⟩, hdv, hok⟩ := hfin
      have hp0 : zb / r0 ≠ 0 := fun e => by
        have h9 := Int.ediv_mul_cancel hgb
        rw [e, Int.zero_mul] at h9
        exact hz h9.symm
      have hex1 : zb = (zb / r0) * r0 := (Int.ediv_mul_cancel hgb).symm
      by_cases hneg : za < 0
      · have hsa : sig za = -1 := by unfold sig; rw [if_pos hneg]
        rw [if_pos hneg] at hdv hok
        have hex2 := (Int.ediv_mul_cancel hdv).symm
        have hXa : ((-m0) % (zb / r0)).natAbs < WB ^ K := by have := az_bd.2 hok.bx; exact Nat.lt_of_le_of_lt (by unfold az at this; omega) hWb
        have hYa : ((r0 - za * ((-m0) % (zb / r0))) / zb).natAbs < WB ^ (K + 1) := by
          have := az_bd.2 hok.by'
          have h8 : WB ^ K < WB ^ (K + 1) := Nat.pow_lt_pow_right (by decide) (Nat.lt_succ_self _)
          unfold az at this; omega
        repeat' (first | (refine TL.isOp ?_; first | (refine TL.isCall ?_; refine TL.call rfl rfl ?_; first | (refine (zsignX _ x1 (Fr.li hF (z := 0) (by repeat (first | exact memH | apply memT))).g (by omega)).mono ?_; rintro _ w1 ⟨rfl, hE⟩; rw [(Fr.li hF (z := 0) (x := x1) (by repeat (first | exact memH | apply memT))).val, hs1]; replace hF := hF.exts hE; clear hE; refine Back.mk ?_) | (refine (zsignX _ ⟨an, ⟨aA, am, ac, al⟩⟩ (Fr.li hF (z := za) (by repeat (first | exact memH | apply memT))).g (by dsimp only; omega)).mono ?_; rintro _ w1 ⟨rfl, hE⟩; rw [hav, hsa]; replace hF := hF.exts hE; clear hE; refine Back.mk ?_) | (refine (zneg_ok _ y0 (Fr.li hF (z := m0) (by repeat (first | exact memH | apply memT))).g (by omega)).mono ?_; rintro _ w1 ⟨u, rfl, hL1, hE, hKu⟩; rw [(Fr.li hF (x := y0) (z := m0) (by repeat (first | exact memH | apply memT))).val] at hL1; replace hF := Fr.addLI (hF.exts hE) hL1; clear hL1 hE; refine Back.mk ?_) | (refine (zexact_ok _ ⟨bn, ⟨bA, bm, bc, bl⟩⟩ x0 (zb / r0) (Fr.li hF (z := zb) (by repeat (first | exact memH | apply memT))).g (Fr.li hF (z := r0) (by repeat (first | exact memH | apply memT))).g (by dsimp only; omega) (by omega) (by rw [(Fr.li hF (z := r0) (x := x0) (by repeat (first | exact memH | apply memT))).val]; exact hg0) (by rw [hbv, (Fr.li hF (z := r0) (x := x0) (by repeat (first | exact memH | apply memT))).val]; exact hex1)).mono ?_; rintro _ w1 ⟨pe, rfl, hL1, hE, hKpe⟩; dsimp only at hKpe; replace hF := Fr.addLI (hF.exts hE) hL1; clear hL1 hE; refine Back.mk ?_) | (refine (zmod_ok _ u pe (Fr.li hF (z := -m0) (by repeat (first | exact memH | apply memT))).g (Fr.li hF (z := zb / r0) (by repeat (first | exact memH | apply memT))).g (by omega) (by omega) (by rw [(Fr.li hF (z := zb / r0) (x := pe) (by repeat (first | exact memH | apply memT))).val]; exact hp0)).mono ?_; rintro _ w1 ⟨xx, rfl, hL1, hE, hKxx⟩; rw [(Fr.li hF (z := -m0) (x := u) (by repeat (first | exact memH | apply memT))).val, (Fr.li hF (z := zb / r0) (x := pe) (by repeat (first | exact memH | apply memT))).val] at hL1; have hxl := hL1.nle' hXa; replace hF := Fr.addLI (hF.exts hE) hL1; clear hL1 hE; refine Back.mk ?_) | (refine (zmul_ok _ ⟨an, ⟨aA, am, ac, al⟩⟩ xx (Fr.li hF (z := za) (by repeat (first | exact memH | apply memT))).g (Fr.li hF (z := -m0 % (zb / r0)) (by repeat (first | exact memH | apply memT))).g (by dsimp only; omega) (by omega)).mono ?_; rintro _ w1 ⟨p, rfl, hL1, hE, hKp⟩; dsimp only at hKp; rw [hav, (Fr.li hF (x := xx) (z := -m0 % (zb / r0)) (by repeat (first | exact memH | apply memT))).val] at hL1; replace hF := Fr.addLI (hF.exts hE) hL1; clear hL1 hE; refine Back.mk ?_) | (refine (zsub_ok _ x0 p (Fr.li hF (z := r0) (by repeat (first | exact memH | apply memT))).g (Fr.li hF (x := p) (by repeat (first | exact memH | apply memT))).g (by omega) (by omega)).mono ?_; rintro _ w1 ⟨dd, rfl, hL1, hE, hKd⟩; rw [(Fr.li hF (x := x0) (z := r0) (by repeat (first | exact memH | apply memT))).val, (Fr.li hF (x := p) (z := za * (-m0 % (zb / r0))) (by repeat (first | exact memH | apply memT))).val] at hL1; replace hF := Fr.addLI (hF.exts hE) hL1; clear hL1 hE; refine Back.mk ?_) | (refine (zexact_ok _ dd ⟨bn, ⟨bA, bm, bc, bl⟩⟩ ((r0 - za * (-m0 % (zb / r0))) / zb) (Fr.li hF (z := r0 - za * (-m0 % (zb / r0))) (by repeat (first | exact memH | apply memT))).g (Fr.li hF (z := zb) (by repeat (first | exact memH | apply memT))).g (by omega) (by dsimp only; omega) (by rw [hbv]; exact hz) (by rw [hbv, (Fr.li hF (z := r0 - za * (-m0 % (zb / r0))) (x := dd) (by repeat (first | exact memH | apply memT))).val]; exact hex2)).mono ?_; rintro _ w1 ⟨yy, rfl, hL1, hE, hKy⟩; have hyl := hL1.nle' hYa; replace hF := Fr.addLI (hF.exts hE) hL1; clear hL1 hE; refine Back.mk ?_)) | (refine TL.isBin ?_; refine TL.cmpG rfl rfl rfl rfl (fun hc => ?_) (fun hc => ?_) <;> (try (first | (exfalso; omega) | exact absurd rfl hc))) | (apply TL.ev; (case hd => rfl); (case h => (first | exact ev_simple rfl | (apply Ev.isLoad; first | exact ev_loadAFr hF rfl (by refine ⟨?_, ?_⟩; (focus (repeat (first | exact InV.head | apply InV.tail))); rfl)) | exact ev_indexArrS rfl rfl (by omega)))) | (refine TL.storeAFr hF rfl rfl rfl rfl (by refine ⟨?_, ?_⟩; (focus (repeat (first | apply SetV.head | apply SetV.tail))); rfl) rfl ?_; clear hF; intro ws hF) | (refine TL.allocFr hF (d := 13) rfl rfl ?_; clear hF; intro w13 b13 hF)) | (refine TF.is ?_; first | refine TF.nil ?_ | refine TF.e rfl ?_ | (refine TF.pick rfl ?_; first | (apply TFo.ev; (case hd => rfl); (case h => (intro wh hF; first | exact ev_simple rfl | (apply Ev.isLoad; first | exact ev_loadAFr hF rfl (by refine ⟨?_, ?_⟩; (focus (repeat (first | exact InV.head | apply InV.tail))); rfl)) | exact ev_indexArrS rfl rfl (by omega)))))) | (refine T.is ?_; first | refine T.seq ?_ | refine T.region ?_ | refine T.cond_t rfl ?_ | refine T.cond_f rfl ?_ | refine T.exit ?_ | refine T.ret ?_ | (refine T.regionFs [b4] hF (by repeat (first | (apply Outs.drop; (focus (first | exact OutM.head | exact OutM.tail OutM.head | exact OutM.tail (OutM.tail OutM.head)))) | apply Outs.keep | exact Outs.nil)) 10 5 (.s 0 (.s 1 (.s 2 (.s 3 (.e 4 (.e 5 .nil)))))) mixed (by kernel_rfl) ?_; clear hF; intro wr hF) | (refine T.regionFs [b6] hF (by repeat (first | (apply Outs.drop; (focus (first | exact OutM.head | exact OutM.tail OutM.head | exact OutM.tail (OutM.tail OutM.head)))) | apply Outs.keep | exact Outs.nil)) 15 11 (.s 0 (.s 1 (.s 2 (.s 5 (.e 3 (.e 4 (.e 6 (.s 7 (.s 8 (.s 9 (.e 10 .nil))))))))))) mixed (by kernel_rfl) ?_; clear hF; intro wr hF) | (refine T.regionFr hF 16 5 (.s 0 (.s 1 (.s 2 (.e 3 (.e 4 (.e 5 .nil)))))) mixed (by kernel_rfl) ?_; clear hF; intro wr hF)) | (refine G.is ?_; first | refine G.next ?_ | refine G.blockE ?_ | refine G.thenE ?_ | refine G.only ?_ | refine G.treeEnd rfl ?_ | refine G.tree rfl (hF.weak (by repeat (first | exact List.Sublist.refl _ | apply List.Sublist.cons_cons | apply List.Sublist.cons)) (by repeat (first | exact allR | apply allT))) ?_) | refine TL.nil ?_)
        exact G.retCCC rfl rfl rfl rfl (held_agg (hF.var (b := b4) (by repeat (first | exact InV.head | apply InV.tail))) rfl) (held_agg (hF.var (b := b5) (by repeat (first | exact InV.head | apply InV.tail))) rfl) (held_agg (hF.var (b := b6) (by repeat (first | exact InV.head | apply InV.tail))) rfl) ⟨x0, xx, yy, r0, -m0 % (zb / r0), _, rfl, Fr.li hF (by repeat (first | exact memH | apply memT)), Fr.li hF (by repeat (first | exact memH | apply memT)), Fr.li hF (by repeat (first | exact memH | apply memT)), hok, hF.ext, hx0, hxl, hyl⟩
      · obtain ⟨sa, hsa, hsa0⟩ : ∃ s, sig za = s ∧ 0 ≤ s := ⟨_, rfl, by unfold sig; rw [if_neg hneg]; split <;> decide⟩
        rw [if_neg hneg] at hdv hok
        have hex2 := (Int.ediv_mul_cancel hdv).symm
        have hXa : (m0 % (zb / r0)).natAbs < WB ^ K := by have := az_bd.2 hok.bx; exact Nat.lt_of_le_of_lt (by unfold az at this; omega) hWb
        have hYa : ((r0 - za * (m0 % (zb / r0))) / zb).natAbs < WB ^ (K + 1) := by
          have := az_bd.2 hok.by'
          have h8 : WB ^ K < WB ^ (K + 1) := Nat.pow_lt_pow_right (by decide) (Nat.lt_succ_self _)
          unfold az at this; omega
        repeat' (first | (refine TL.isOp ?_; first | (refine TL.isCall ?_; refine TL.call rfl rfl ?_; first | (refine (zsignX _ x1 (Fr.li hF (z := 0) (by repeat (first | exact memH | apply memT))).g (by omega)).mono ?_; rintro _ w1 ⟨rfl, hE⟩; rw [(Fr.li hF (z := 0) (x := x1) (by repeat (first | exact memH | apply memT))).val, hs1]; replace hF := hF.exts hE; clear hE; refine Back.mk ?_) | (refine (zsignX _ ⟨an, ⟨aA, am, ac, al⟩⟩ (Fr.li hF (z := za) (by repeat (first | exact memH | apply memT))).g (by dsimp only; omega)).mono ?_; rintro _ w1 ⟨rfl, hE⟩; rw [hav, hsa]; replace hF := hF.exts hE; clear hE; refine Back.mk ?_) | (refine (zexact_ok _ ⟨bn, ⟨bA, bm, bc, bl⟩⟩ x0 (zb / r0) (Fr.li hF (z := zb) (by repeat (first | exact memH | apply memT))).g (Fr.li hF (z := r0) (by repeat (first | exact memH | apply memT))).g (by dsimp only; omega) (by omega) (by rw [(Fr.li hF (z := r0) (x := x0) (by repeat (first | exact memH | apply memT))).val]; exact hg0) (by rw [hbv, (Fr.li hF (z := r0) (x := x0) (by repeat (first | exact memH | apply memT))).val]; exact hex1)).mono ?_; rintro _ w1 ⟨pe, rfl, hL1, hE, hKpe⟩; dsimp only at hKpe; replace hF := Fr.addLI (hF.exts hE) hL1; clear hL1 hE; refine Back.mk ?_) | (refine (zmod_ok _ y0 pe (Fr.li hF (z := m0) (by repeat (first | exact memH | apply memT))).g (Fr.li hF (z := zb / r0) (by repeat (first | exact memH | apply memT))).g (by omega) (by omega) (by rw [(Fr.li hF (z := zb / r0) (x := pe) (by repeat (first | exact memH | apply memT))).val]; exact hp0)).mono ?_; rintro _ w1 ⟨xx, rfl, hL1, hE, hKxx⟩; rw [(Fr.li hF (z := m0) (x := y0) (by repeat (first | exact memH | apply memT))).val, (Fr.li hF (z := zb / r0) (x := pe) (by repeat (first | exact memH | apply memT))).val] at hL1; have hxl := hL1.nle' hXa; replace hF := Fr.addLI (hF.exts hE) hL1; clear hL1 hE; refine Back.mk ?_) | (refine (zmul_ok _ ⟨an, ⟨aA, am, ac, al⟩⟩ xx (Fr.li hF (z := za) (by repeat (first | exact memH | apply memT))).g (Fr.li hF (z := m0 % (zb / r0)) (by repeat (first | exact memH | apply memT))).g (by dsimp only; omega) (by omega)).mono ?_; rintro _ w1 ⟨p, rfl, hL1, hE, hKp⟩; dsimp only at hKp; rw [hav, (Fr.li hF (x := xx) (z := m0 % (zb / r0)) (by repeat (first | exact memH | apply memT))).val] at hL1; replace hF := Fr.addLI (hF.exts hE) hL1; clear hL1 hE; refine Back.mk ?_) | (refine (zsub_ok _ x0 p (Fr.li hF (z := r0) (by repeat (first | exact memH | apply memT))).g (Fr.li hF (x := p) (by repeat (first | exact memH | apply memT))).g (by omega) (by omega)).mono ?_; rintro _ w1 ⟨dd, rfl, hL1, hE, hKd⟩; rw [(Fr.li hF (x := x0) (z := r0) (by repeat (first | exact memH | apply memT))).val, (Fr.li hF (x := p) (z := za * (m0 % (zb / r0))) (by repeat (first | exact memH | apply memT))).val] at hL1; replace hF := Fr.addLI (hF.exts hE) hL1; clear hL1 hE; refine Back.mk ?_) | (refine (zexact_ok _ dd ⟨bn, ⟨bA, bm, bc, bl⟩⟩ ((r0 - za * (m0 % (zb / r0))) / zb) (Fr.li hF (z := r0 - za * (m0 % (zb / r0))) (by repeat (first | exact memH | apply memT))).g (Fr.li hF (z := zb) (by repeat (first | exact memH | apply memT))).g (by omega) (by dsimp only; omega) (by rw [hbv]; exact hz) (by rw [hbv, (Fr.li hF (z := r0 - za * (m0 % (zb / r0))) (x := dd) (by repeat (first | exact memH | apply memT))).val]; exact hex2)).mono ?_; rintro _ w1 ⟨yy, rfl, hL1, hE, hKy⟩; have hyl := hL1.nle' hYa; replace hF := Fr.addLI (hF.exts hE) hL1; clear hL1 hE; refine Back.mk ?_)) | (refine TL.isBin ?_; refine TL.cmpG rfl rfl rfl rfl (fun hc => ?_) (fun hc => ?_) <;> (try (first | (exfalso; omega) | exact absurd rfl hc))) | (apply TL.ev; (case hd => rfl); (case h => (first | exact ev_simple rfl | (apply Ev.isLoad; first | exact ev_loadAFr hF rfl (by refine ⟨?_, ?_⟩; (focus (repeat (first | exact InV.head | apply InV.tail))); rfl)) | exact ev_indexArrS rfl rfl (by omega)))) | (refine TL.storeAFr hF rfl rfl rfl rfl (by refine ⟨?_, ?_⟩; (focus (repeat (first | apply SetV.head | apply SetV.tail))); rfl) rfl ?_; clear hF; intro ws hF) | (refine TL.allocFr hF (d := 13) rfl rfl ?_; clear hF; intro w13 b13 hF)) | (refine TF.is ?_; first | refine TF.nil ?_ | refine TF.e rfl ?_ | (refine TF.pick rfl ?_; first | (apply TFo.ev; (case hd => rfl); (case h => (intro wh hF; first | exact ev_simple rfl | (apply Ev.isLoad; first | exact ev_loadAFr hF rfl (by refine ⟨?_, ?_⟩; (focus (repeat (first | exact InV.head | apply InV.tail))); rfl)) | exact ev_indexArrS rfl rfl (by omega)))))) | (refine T.is ?_; first | refine T.seq ?_ | refine T.region ?_ | refine T.cond_f rfl ?_ | refine T.exit ?_ | refine T.ret ?_ | refine T.skip ?_ | (refine T.regionFs [b4] hF (by repeat (first | (apply Outs.drop; (focus (first | exact OutM.head | exact OutM.tail OutM.head | exact OutM.tail (OutM.tail OutM.head)))) | apply Outs.keep | exact Outs.nil)) 10 5 (.s 0 (.s 1 (.s 2 (.s 3 (.e 4 (.e 5 .nil)))))) mixed (by kernel_rfl) ?_; clear hF; intro wr hF) | (refine T.regionFs [b6] hF (by repeat (first | (apply Outs.drop; (focus (first | exact OutM.head | exact OutM.tail OutM.head | exact OutM.tail (OutM.tail OutM.head)))) | apply Outs.keep | exact Outs.nil)) 15 11 (.s 0 (.s 1 (.s 2 (.s 5 (.e 3 (.e 4 (.e 6 (.s 7 (.s 8 (.s 9 (.e 10 .nil))))))))))) mixed (by kernel_rfl) ?_; clear hF; intro wr hF) | (refine T.regionFr hF 16 5 (.s 0 (.s 1 (.s 2 (.e 3 (.e 4 (.e 5 .nil)))))) mixed (by kernel_rfl) ?_; clear hF; intro wr hF)) | (refine G.is ?_; first | refine G.next ?_ | refine G.blockE ?_ | refine G.thenE ?_ | refine G.only ?_ | refine G.treeEnd rfl ?_ | refine G.tree rfl (hF.weak (by repeat (first | exact List.Sublist.refl _ | apply List.Sublist.cons_cons | apply List.Sublist.cons)) (by repeat (first | exact allR | apply allT))) ?_) | refine TL.nil ?_)
        exact G.retCCC rfl rfl rfl rfl (held_agg (hF.var (b := b4) (by repeat (first | exact InV.head | apply InV.tail))) rfl) (held_agg (hF.var (b := b5) (by repeat (first | exact InV.head | apply InV.tail))) rfl) (held_agg (hF.var (b := b6) (by repeat (first | exact InV.head | apply InV.tail))) rfl) ⟨x0, xx, yy, r0, m0 % (zb / r0), _, rfl, Fr.li hF (by repeat (first | exact memH | apply memT)), Fr.li hF (by repeat (first | exact memH | apply memT)), Fr.li hF (by repeat (first | exact memH | apply memT)), hok, hF.ext, hx0, hxl, hyl⟩
    · obtain ⟨sg, hs1, hs0⟩ : ∃ sg, sig r1 = sg ∧ sg ≠ 0 := ⟨_, rfl, fun h => h1 (sig_0.1 h)⟩
      have hst := hEu.step h1
      have hrr : (r0 % r1).natAbs < WB ^ K := by
        have h8 := Int.emod_nonneg r0 h1
        have h9 := Int.emod_lt_of_pos r0 (show 0 < r1 by omega)
        omega
      have hmm : (m0 - r0 / r1 * m1).natAbs < WB ^ K := by have h8 := hst.b1; unfold az at h8; omega
      repeat' (first | (refine TL.isOp ?_; first | (refine TL.isCall ?_; refine TL.call rfl rfl ?_; first | (refine (zsignX _ x1 (Fr.li hF (z := r1) (by repeat (first | exact memH | apply memT))).g (by omega)).mono ?_; rintro _ w1 ⟨rfl, hE⟩; rw [(Fr.li hF (z := r1) (x := x1) (by repeat (first | exact memH | apply memT))).val, hs1]; replace hF := hF.exts hE; clear hE; refine Back.mk ?_) | (refine (ztruncP _ x0 x1 r0 r1 (Fr.li hF (by repeat (first | exact memH | apply memT))) (Fr.li hF (by repeat (first | exact memH | apply memT))) hn0 (by omega) (by omega) (by omega)).mono ?_; rintro _ w1 ⟨q, r, rfl, hLq, hLr, hE, hKq, hKr⟩; replace hF := Fr.addLI (Fr.addLI (hF.exts hE) hLq) hLr; clear hE hLq hLr; refine Back.mk ?_) | (refine (zmul_ok _ q y1 (Fr.li hF (z := r0 / r1) (by repeat (first | exact memH | apply memT))).g (Fr.li hF (z := m1) (by repeat (first | exact memH | apply memT))).g (by omega) (by omega)).mono ?_; rintro _ w1 ⟨p, rfl, hL1, hE, hKp⟩; rw [(Fr.li hF (x := q) (z := r0 / r1) (by repeat (first | exact memH | apply memT))).val, (Fr.li hF (x := y1) (z := m1) (by repeat (first | exact memH | apply memT))).val] at hL1; replace hF := Fr.addLI (hF.exts hE) hL1; clear hL1 hE; refine Back.mk ?_) | (refine (zsub_ok _ y0 p (Fr.li hF (z := m0) (by repeat (first | exact memH | apply memT))).g (Fr.li hF (x := p) (by repeat (first | exact memH | apply memT))).g (by omega) (by omega)).mono ?_; rintro _ w1 ⟨mm, rfl, hL1, hE, hKm⟩; rw [(Fr.li hF (x := y0) (z := m0) (by repeat (first | exact memH | apply memT))).val, (Fr.li hF (x := p) (z := r0 / r1 * m1) (by repeat (first | exact memH | apply memT))).val] at hL1; replace hF := Fr.addLI (hF.exts hE) hL1; clear hL1 hE; refine Back.mk ?_)) | (refine TL.isBin ?_; refine TL.cmpG rfl rfl rfl rfl (fun hc => ?_) (fun hc => ?_) <;> (try (first | (exfalso; omega) | exact absurd rfl hc))) | (apply TL.ev; (case hd => rfl); (case h => (first | exact ev_simple rfl | (apply Ev.isLoad; first | exact ev_loadAFr hF rfl (by refine ⟨?_, ?_⟩; (focus (repeat (first | exact InV.head | apply InV.tail))); rfl)) | exact ev_indexArrS rfl rfl (by omega) | exact ev_buildArr rfl rfl))) | (refine TL.storeAFr hF rfl rfl rfl rfl (by refine ⟨?_, ?_⟩; (focus (repeat (first | apply SetV.head | apply SetV.tail))); rfl) rfl ?_; clear hF; intro ws hF) | (refine TL.allocFr hF (d := 9) rfl rfl ?_; clear hF; intro w9 b9 hF) | (refine TL.allocFr hF (d := 10) rfl rfl ?_; clear hF; intro w10 b10 hF) | (refine TL.allocFr hF (d := 12) rfl rfl ?_; clear hF; intro w12 b12 hF)) | (refine TF.is ?_; first | refine TF.nil ?_ | refine TF.e rfl ?_ | refine TF.alt ?_ ?_ | (refine TF.pick rfl ?_; first | (apply TFo.ev; (case hd => rfl); (case h => (intro wh hF; first | (apply Ev.isLoad; first | exact ev_loadAFr hF rfl (by refine ⟨?_, ?_⟩; (focus (repeat (first | exact InV.head | apply InV.tail))); rfl)) | exact ev_indexArrS rfl rfl (by omega)))))) | (refine T.is ?_; first | refine T.seq ?_ | refine T.region ?_ | refine T.block ?_ | refine T.cond_t rfl ?_ | refine T.skip ?_ | (refine T.regionFr hF 7 8 (.s 0 (.s 1 (.s 2 (.s 3 (.s 4 (.alt (.e 5 (.alt (.e 6 (.e 7 (.e 8 .nil))) (.e 7 (.e 6 (.e 8 .nil))))) (.e 7 (.e 5 (.e 6 (.e 8 .nil)))))))))) mixed (by kernel_rfl) ?_; clear hF; intro wr hF)) | (refine G.is ?_; first | refine G.next ?_ | refine G.blockN ?_ | refine G.only ?_ | refine G.treeEnd rfl ?_ | refine G.tree rfl (by first | exact hF | exact hF.weak (List.sublist_append_right _ _) (by repeat (first | exact allR | apply allT)) | exact hF.weak (by repeat (first | exact List.Sublist.refl _ | apply List.Sublist.cons)) (by repeat (first | exact allR | apply allT)) | exact hF.weak (by repeat (first | exact List.Sublist.refl _ | apply List.Sublist.cons)) (by repeat (first | exact allN | refine allH (by repeat (first | exact memH | apply memT)) ?_))) ?_) | refine TL.nil ?_)
      all_goals
        have hrl := (Fr.li hF (z := r0 % r1) (x := r) (by repeat (first | exact memH | apply memT))).nle' hrr
        have hml := (Fr.li hF (z := m0 - r0 / r1 * m1) (x := mm) (by repeat (first | exact memH | apply memT))).nle' hmm
        exact G.again ⟨r1, r0 % r1, m1, m0 - r0 / r1 * m1, x1, r, y1, mm⟩ (by repeat (first | exact Sub.nil _ | refine Sub.cons rfl ?_ | refine Sub.cons' rfl (int_congr (by omega)) ?_)) ⟨hst, ⟨hr1, hrr⟩, ⟨hx1, hrl⟩, ⟨hy1, by dsimp only; omega⟩, hF.weak (.cons _ (.cons _ (.cons _ (.refl _)))) (allH (by repeat (first | exact memH | apply memT)) (allH (by repeat (first | exact memH | apply memT)) (allH (by repeat (first | exact memH | apply memT)) (allH (by repeat (first | exact memH | apply memT)) (allH (by repeat (first | exact memH | apply memT)) (allH (by repeat (first | exact memH | apply memT)) allN))))))⟩ (Eu.smaller hn1 h1)
end Go.Proofs.YthlbihbchobllaaGreat

namespace Go.Proofs.YthlbihbchobllaaGreat
open Go Go.Eng Go.Proofs Go.NatM Go.RowKit Go.Det

/-- a state of the ladder -/
structure Stt (n : Nat) (t0 : Ss) (Tr : List Ss) (s0 : Sd) (Qr : List Sd) : Prop where
  st : (s0 :: Qr).map Sd.st = t0 :: Tr
  shp : ∀ s ∈ s0 :: Qr, Shp n s
theorem Stt.g {n : Nat} {t0 : Ss} {Tr : List Ss} {s0 : Sd} {Qr : List Sd} (h : Stt n t0 Tr s0 Qr) : s0.g = t0.g := by
  have := h.st
  simp only [List.map_cons, List.cons.injEq] at this
  rw [← this.1]; rfl
theorem Stt.c {n : Nat} {t0 : Ss} {Tr : List Ss} {s0 : Sd} {Qr : List Sd} (h : Stt n t0 Tr s0 Qr) : s0.c = t0.c := by
  have := h.st
  simp only [List.map_cons, List.cons.injEq] at this
  rw [← this.1]; rfl
theorem Stt.bk {n : Nat} {t0 : Ss} {Tr : List Ss} {s0 : Sd} {Qr : List Sd} (h : Stt n t0 Tr s0 Qr) : s0.back = t0.back := by
  have := h.st
  simp only [List.map_cons, List.cons.injEq] at this
  rw [← this.1]; rfl
theorem Stt.len {n N : Nat} {t0 : Ss} {Tr : List Ss} {s0 : Sd} {Qr : List Sd} (h : Stt n t0 Tr s0 Qr) (hm : (t0 :: Tr).length ≤ N) : (s0 :: Qr).length ≤ N := by
  rw [← h.st, List.length_map] at hm; exact hm
theorem Stt.op {n : Nat} {t0 : Ss} {Tr : List Ss} {s0 : Sd} {Qr Q' : List Sd} {o : Opn} (h : Stt n t0 Tr s0 Qr) (hr : OpRel n o (s0 :: Qr) Q') : ∃ s1 Qr1, Q' = s1 :: Qr1 ∧ Stt n t0 Tr s1 Qr1 ∧ s1.F = o.on s0.back s0.F := by
  have h1 := hr.st
  have h2 := hr.shp
  obtain ⟨s1, h3, R', h4, _⟩ := hr.2 0 s0 rfl
  match Q', h3 with
  | t :: Qr1, h3 =>
    have e : t = s1 := by simpa using h3
    subst e
    exact ⟨t, Qr1, rfl, ⟨h1.trans h.st, h2⟩, by rw [h4]; rfl⟩
/-- the rows' blocks are the same -/
def Same (Q Q' : List Sd) : Prop := ((sdsL Q').map (·.b)).Perm ((sdsL Q).map (·.b))
theorem two_fp {n K : Nat} {Q : List Sd} : ∀ d ∈ [dpSds n K Q], ∀ k, ¬ d.fp k := fun d hd k => by rw [List.mem_singleton.1 hd]; exact dpSds_fp
theorem Fr.retQ {S : Nat → Prop} {w0 w w' : World} {D : List DP} {n K : Nat} {Q Q' : List Sd} (Pre : List VB) (h : Fr w0 w (Pre ++ sdsL Q) D S) (hp : Same Q Q') (hc : Fr w w' (sdsL Q') [dpSds n K Q'] (blk (sdsL Q))) : Fr w0 w' (Pre ++ sdsL Q') (dpSds n K Q' :: D) S := by
  have := Fr.call (Pre := Pre) (Post := []) (by rw [List.append_nil]; exact h) hc (fun k hk => hk) hp (sdsL_no Q) two_fp
  rwa [List.append_nil] at this
theorem InV.q0 {s0 : Sd} {Qr : List Sd} {g : Nat} (hg : s0.g = g) : InV (sdsL (s0 :: Qr)) g 22 (s0.R.map (rowq s0.c)) := by
  subst hg
  show InV (sdL s0 ++ sdsL Qr) _ _ _
  exact InV.post InV.sdg
theorem InV.qr {s0 : Sd} {Qr : List Sd} {i : Nat} {x : RQ} (hi : s0.R[i]? = some x) : InV (sdsL (s0 :: Qr)) x.b 43 (x.l.flatMap ivc) := by
  show InV (sdL s0 ++ sdsL Qr) _ _ _
  exact InV.post (InV.sdr hi)
/-- a number of the first side -/
theorem q0_get {H : Array Obj} {n K i q : Nat} {t0 : Ss} {Tr : List Ss} {s0 : Sd} {Qr : List Sd} (h : Stt n t0 Tr s0 Qr) (hd : ∀ s ∈ s0 :: Qr, SdK n K s H) (hi : i < n) (hq : q < t0.c) :
    ∃ x y, s0.R[i]? = some x ∧ q < x.l.length ∧ x.l[q]? = some y ∧ s0.c ≤ x.l.length ∧ LI H (s0.F i q) y ∧ y.m.n ≤ K := by
  obtain ⟨x, hx, hc, hxd⟩ := (h.shp s0 (List.mem_cons_self ..)).at hi
  have hq' : q < s0.c := by rw [h.c]; exact hq
  have h1 := sdk_get (hd s0 (List.mem_cons_self ..)) hi hxd hq'
  refine ⟨x, x.l.getD q default, hx, by omega, ?_, hc, h1.1, h1.2⟩
  simp [List.getD, show q < x.l.length by omega]
def RetQ (w : World) (n K : Nat) (Q : List Sd) (Φ : List Sd → Prop) (S : Nat → Prop) (e : Ending) (w' : World) : Prop :=
  e = .returned (.tuple #[]) ∧ ∃ Q', Φ Q' ∧ Same Q Q' ∧ Fr w w' (sdsL Q') [dpSds n K Q'] S
/-- what meet does -/
def MeetR (n k t j : Nat) (s0 : Sd) (Qr Q' : List Sd) : Prop :=
  (s0.F t j % s0.F k j = 0 ∧ OpRel n (.ad t k (-(s0.F t j / s0.F k j))) (s0 :: Qr) Q') ∨
  (s0.F t j % s0.F k j ≠ 0 ∧ ∃ g x y s u, ExtOk (s0.F k j) (s0.F t j % s0.F k j) g x y ∧ s0.F t j % s0.F k j = g * s ∧ s0.F k j = g * u ∧ ∃ Q1, OpRel n (.ad t k (-(s0.F t j / s0.F k j))) (s0 :: Qr) Q1 ∧ OpRel n (.mx k t x y (-s) u) Q1 Q')
structure Mes where
  b8 : Nat
  b9 : Nat
  q : IV
  r : IV
set_option maxRecDepth 100000 in
set_option maxHeartbeats 16000000 in
theorem lmeet_ok (w : World) (lb sb n m K k t j : Nat) (t0 : Ss) (Tr : List Ss) (s0 : Sd) (Qr : List Sd) (S : Nat → Prop) (hS : Stt n t0 Tr s0 Qr) (hbk : t0.back = false) (hm : (t0 :: Tr).length ≤ 1048576) (hk : k < n) (ht : t < n) (hkt : k ≠ t) (hj : j < t0.c) (hp : 1 ≤ s0.F k j) (hK : K ≤ 4398046511000)
    (hB1 : ∀ s ∈ s0 :: Qr, BdW n K ((Opn.ad t k (-(s0.F t j / s0.F k j))).on s.back s.F))
    (hB2 : s0.F t j % s0.F k j ≠ 0 → ∀ g x y s u, ExtOk (s0.F k j) (s0.F t j % s0.F k j) g x y → s0.F t j % s0.F k j = g * s → s0.F k j = g * u → ∀ Q1, OpRel n (.ad t k (-(s0.F t j / s0.F k j))) (s0 :: Qr) Q1 → ∀ s' ∈ Q1, BdW n K ((Opn.mx k t x y (-s) u).on s'.back s'.F))
    (hF : Fr w w (sdsL (s0 :: Qr)) (dpLd lb sb t0.g n m (t0 :: Tr) :: dpSds n K (s0 :: Qr) :: []) S) :
    Cl Tryz.prog 65 #[.pointer (some ⟨lb, 0, none⟩), .int .i64 (k : Int), .int .i64 (t : Int), .int .i64 (j : Int)] w (RetQ w n K (s0 :: Qr) (MeetR n k t j s0 Qr) S) := by
  have hd0 := Fr.sds hF (n := n) (K := K) (Q := s0 :: Qr) (by repeat (first | exact memH | apply memT))
  obtain ⟨xt, yt, hxt, hqt, hyt, hct, hLt, hKt⟩ := q0_get hS hd0 ht hj
  obtain ⟨xk, yk, hxk, hqk, hyk, hck, hLk, hKk⟩ := q0_get hS hd0 hk hj
  clear hd0
  have hg := hS.g
  have hjc : j < s0.c := by rw [hS.c]; exact hj
  have hnt : (s0 :: Qr).map Sd.st = t0 :: Tr := hS.st
  obtain ⟨q, hq⟩ : ∃ q, s0.F t j / s0.F k j = q := ⟨_, rfl⟩
  obtain ⟨r, hr⟩ : ∃ r, s0.F t j % s0.F k j = r := ⟨_, rfl⟩
  have hrW : r.natAbs < WB ^ K := by
    have h1 := hLk.g.abs_lt'
    rw [hLk.val] at h1
    have h2 : WB ^ yk.m.n ≤ WB ^ K := Nat.pow_le_pow_right (by decide) hKk
    have h3 := Int.emod_nonneg (s0.F t j) (show s0.F k j ≠ 0 by omega)
    have h4 := Int.emod_lt_of_pos (s0.F t j) (show 0 < s0.F k j by omega)
    omega
  rw [hq] at hB1 hB2
  rw [hr] at hB2
  replace hF := Fr.addLI (Fr.addLI hF hLt) hLk
  clear hLt hLk
  refine enter Tryz.func65 rfl rfl rfl ?_
  refine T.cut (α := Mes) (fun z => [(0, .pointer (some ⟨lb, 0, none⟩)), (1, .int .i64 (k : Int)), (2, .int .i64 (t : Int)), (3, .int .i64 (j : Int)), (8, .pointer (some ⟨z.b8, 0, none⟩)), (9, .pointer (some ⟨z.b9, 0, none⟩))])
    (fun z w' => z.q.m.n ≤ K + 2 ∧ Fr w w' (⟨z.b8, 43, [.bool z.q.neg, .slice z.q.m.A z.q.m.n z.q.m.c]⟩ :: ⟨z.b9, 43, [.bool z.r.neg, .slice z.r.m.A z.r.m.n z.r.m.c]⟩ :: sdsL (s0 :: Qr)) [dpLI q z.q, dpLI r z.r, dpLd lb sb t0.g n m (t0 :: Tr), dpSds n K (s0 :: Qr)] S) ?_ ?_
  · repeat' (first | (refine TL.isOp ?_; first | (refine TL.isCall ?_; refine TL.call rfl rfl ?_; first | (refine (zfloor_ok _ yt yk (Fr.li hF (x := yt) (by repeat (first | exact memH | apply memT))).g (Fr.li hF (x := yk) (by repeat (first | exact memH | apply memT))).g (by omega) (by omega) (by rw [(Fr.li hF (x := yk) (by repeat (first | exact memH | apply memT))).val]; omega)).mono ?_; rintro _ w1 ⟨qi, ri, rfl, hLq, hLr, hE, hKq, hKr⟩; rw [(Fr.li hF (x := yt) (by repeat (first | exact memH | apply memT))).val, (Fr.li hF (x := yk) (by repeat (first | exact memH | apply memT))).val, hq] at hLq; rw [(Fr.li hF (x := yt) (by repeat (first | exact memH | apply memT))).val, (Fr.li hF (x := yk) (by repeat (first | exact memH | apply memT))).val, hr] at hLr; replace hF := Fr.addLI (Fr.addLI (hF.exts hE) hLq) hLr; clear hE hLq hLr; refine Back.mk ?_)) | (refine TL.storeAFr hF rfl rfl rfl rfl (by refine ⟨?_, ?_⟩; (focus (repeat (first | apply SetV.head | apply SetV.tail))); rfl) rfl ?_; clear hF; intro ws hF) | (refine TL.allocFr hF (d := 8) rfl rfl ?_; clear hF; intro w8 b8 hF) | (refine TL.allocFr hF (d := 9) rfl rfl ?_; clear hF; intro w9 b9 hF)) | (refine TF.is ?_; first | refine TF.nil ?_ | refine TF.e rfl ?_ | refine TF.alt ?_ ?_ | (refine TF.pick rfl ?_; first | (apply TFo.ev; (case hd => rfl); (case h => (intro wh hF; first | exact ev_simple rfl | (apply Ev.isLoad; first | exact ev_loadV rfl (Fr.ld hF (by repeat (first | exact memH | apply memT))).ld rfl | exact ev_loadM rfl (rowq_sm (r := xt) hF (by repeat (first | exact InV.qr hxt | apply InV.tail))) hyt | exact ev_loadM rfl (rowq_sm (r := xk) hF (by repeat (first | exact InV.qr hxk | apply InV.tail))) hyk) | exact ev_fieldAddr rfl | exact ev_nilCheck rfl | exact ev_indexN rfl rfl hk (.inr rfl) | exact ev_indexN rfl rfl ht (.inr rfl) | exact ev_rowq hF rfl hxt (by repeat (first | exact InV.q0 hg | apply InV.tail)) | exact ev_rowq hF rfl hxk (by repeat (first | exact InV.q0 hg | apply InV.tail)) | exact ev_indexM rfl rfl hjc (.inr rfl)))))) | (refine T.is ?_; first | (refine T.regionFr hF 0 30 (.s 0 (.s 1 (.s 2 (.s 3 (.s 4 (.s 5 (.s 6 (.s 7 (.s 8 (.s 9 (.s 10 (.s 11 (.s 12 (.s 13 (.s 14 (.s 15 (.s 16 (.s 17 (.s 18 (.s 19 (.alt (.e 20 (.s 21 (.s 22 (.s 23 (.s 24 (.alt (.e 25 (.e 26 (.e 27 (.e 28 (.s 29 .nil))))) (.e 26 (.e 25 (.e 27 (.e 28 (.s 29 .nil))))))))))) (.alt (.e 25 (.alt (.e 20 (.s 21 (.s 22 (.s 23 (.s 24 (.e 26 (.e 27 (.e 28 (.s 29 .nil))))))))) (.e 26 (.e 20 (.s 21 (.s 22 (.s 23 (.s 24 (.e 27 (.e 28 (.s 29 .nil))))))))))) (.e 26 (.alt (.e 20 (.s 21 (.s 22 (.s 23 (.s 24 (.e 25 (.e 27 (.e 28 (.s 29 .nil))))))))) (.e 25 (.e 20 (.s 21 (.s 22 (.s 23 (.s 24 (.e 27 (.e 28 (.s 29 .nil))))))))))))))))))))))))))))))))) mixed (by kernel_rfl) ?_; clear hF; intro wr hF)) | (refine G.is ?_; first | refine G.only ?_ | refine G.tree rfl (hF.weak (by repeat (first | exact List.Sublist.refl _ | apply List.Sublist.cons_cons | apply List.Sublist.cons)) (by repeat (first | exact allR | apply allT))) ?_) | refine TL.nil ?_)
    all_goals first
      | exact G.cut ⟨b8, b9, qi, ri⟩ (by repeat (first | exact Sub.nil _ | refine Sub.cons rfl ?_ | refine Sub.cons' rfl (int_congr (by omega)) ?_)) ⟨by dsimp only; omega, hF.weak (.refl _) (allH (by repeat (first | exact memH | apply memT)) (allH (by repeat (first | exact memH | apply memT)) (allH (by repeat (first | exact memH | apply memT)) (allH (by repeat (first | exact memH | apply memT)) allN))))⟩
      | exact G.cut ⟨b8, b9, qi, ri⟩ (by repeat (first | exact Sub.nil _ | refine Sub.cons rfl ?_ | refine Sub.cons' rfl (int_congr (by omega)) ?_)) ⟨by dsimp only; omega, (Fr.swap hF).weak (.refl _) (allH (by repeat (first | exact memH | apply memT)) (allH (by repeat (first | exact memH | apply memT)) (allH (by repeat (first | exact memH | apply memT)) (allH (by repeat (first | exact memH | apply memT)) allN))))⟩
  clear hF
  rintro ⟨b8, b9, qi, ri⟩ w2 ⟨hqn, hF⟩
  dsimp only at hqn hF ⊢
  by_cases h0 : r = 0
  · have hs1 : sig r = 0 := sig_0.2 h0
    repeat' (first | (refine TL.isOp ?_; first | (refine TL.isCall ?_; refine TL.call rfl rfl ?_; first | (refine (zneg_ok _ qi (Fr.li hF (x := qi) (z := q) (by repeat (first | exact memH | apply memT))).g (by omega)).mono ?_; rintro _ w3 ⟨u, rfl, hLu, hE, hKu⟩; rw [(Fr.li hF (x := qi) (z := q) (by repeat (first | exact memH | apply memT))).val] at hLu; replace hF := Fr.addLI (hF.exts hE) hLu; clear hE hLu; refine Back.mk ?_) | (refine (lmaddZ_ok _ lb sb t0.g n m K t k (s0 :: Qr) u (-q) _ hS.shp (hS.len hm) ht hk (Ne.symm hkt) (by omega) (by omega) (by rw [hnt]; exact Fr.subP [_, _] hF (allH (by repeat (first | exact memH | apply memT)) (allH (by repeat (first | exact memH | apply memT)) (allH (by repeat (first | exact memH | apply memT)) allN)))) hB1).mono ?_; rintro _ w3 ⟨rfl, Q1, hR1, hF'⟩; replace hF := Fr.retQ [_, _] hF hR1.blk hF'; clear hF'; refine Back.mk ?_) | (refine (zsignX _ ri (Fr.li hF (x := ri) (z := r) (by repeat (first | exact memH | apply memT))).g ((Fr.li hF (x := ri) (z := r) (by repeat (first | exact memH | apply memT))).nle' hrW |> fun h => by omega)).mono ?_; rintro _ w3 ⟨rfl, hE⟩; rw [(Fr.li hF (x := ri) (z := r) (by repeat (first | exact memH | apply memT))).val, hs1]; replace hF := hF.exts hE; clear hE; refine Back.mk ?_)) | (refine TL.isBin ?_; refine TL.cmpG rfl rfl rfl rfl (fun hc => ?_) (fun hc => ?_) <;> (try (first | (exfalso; omega) | exact absurd rfl hc))) | (apply TL.ev; (case hd => rfl); (case h => (first | exact ev_simple rfl | (apply Ev.isLoad; first | exact ev_loadAFr hF rfl (by refine ⟨?_, ?_⟩; (focus (repeat (first | exact InV.head | apply InV.tail))); rfl)))))) | (refine T.is ?_; first | refine T.seq ?_ | refine T.region ?_ | refine T.cond_t rfl ?_ | refine T.ret ?_) | (refine G.is ?_; first | refine G.next ?_ | refine G.thenR ?_) | refine TL.nil ?_)
    exact G.ret0 rfl ⟨rfl, Q1, .inl ⟨by rw [hr]; exact h0, by rw [hq]; exact hR1⟩, hR1.blk, hF.weak (.cons _ (.cons _ (.refl _))) (allH (by repeat (first | exact memH | apply memT)) allN)⟩
  · obtain ⟨sg, hs1, hs0⟩ : ∃ sg, sig r = sg ∧ sg ≠ 0 := ⟨_, rfl, fun h => h0 (sig_0.1 h)⟩
    repeat' (first | (refine TL.isOp ?_; first | (refine TL.isCall ?_; refine TL.call rfl rfl ?_; first | (refine (zneg_ok _ qi (Fr.li hF (x := qi) (z := q) (by repeat (first | exact memH | apply memT))).g (by omega)).mono ?_; rintro _ w3 ⟨u, rfl, hLu, hE, hKu⟩; rw [(Fr.li hF (x := qi) (z := q) (by repeat (first | exact memH | apply memT))).val] at hLu; replace hF := Fr.addLI (hF.exts hE) hLu; clear hE hLu; refine Back.mk ?_) | (refine (lmaddZ_ok _ lb sb t0.g n m K t k (s0 :: Qr) u (-q) _ hS.shp (hS.len hm) ht hk (Ne.symm hkt) (by omega) (by omega) (by rw [hnt]; exact Fr.subP [_, _] hF (allH (by repeat (first | exact memH | apply memT)) (allH (by repeat (first | exact memH | apply memT)) (allH (by repeat (first | exact memH | apply memT)) allN)))) hB1).mono ?_; rintro _ w3 ⟨rfl, Q1, hR1, hF'⟩; replace hF := Fr.retQ [_, _] hF hR1.blk hF'; clear hF'; refine Back.mk ?_) | (refine (zsignX _ ri (Fr.li hF (x := ri) (z := r) (by repeat (first | exact memH | apply memT))).g ((Fr.li hF (x := ri) (z := r) (by repeat (first | exact memH | apply memT))).nle' hrW |> fun h => by omega)).mono ?_; rintro _ w3 ⟨rfl, hE⟩; rw [(Fr.li hF (x := ri) (z := r) (by repeat (first | exact memH | apply memT))).val, hs1]; replace hF := hF.exts hE; clear hE; refine Back.mk ?_)) | (refine TL.isBin ?_; refine TL.cmpG rfl rfl rfl rfl (fun hc => ?_) (fun hc => ?_) <;> (try (first | (exfalso; omega) | exact absurd rfl hc))) | (apply TL.ev; (case hd => rfl); (case h => (first | exact ev_simple rfl | (apply Ev.isLoad; first | exact ev_loadAFr hF rfl (by refine ⟨?_, ?_⟩; (focus (repeat (first | exact InV.head | apply InV.tail))); rfl)))))) | (refine T.is ?_; first | refine T.seqM 3 rfl ?_ | refine T.region ?_ | refine T.cond_f rfl ?_ | refine T.skip ?_) | (refine G.is ?_; first | refine G.next ?_) | refine TL.nil ?_)
    obtain ⟨s1, Qr1, rfl, hS1, hF1⟩ := hS.op hR1
    rw [hS.bk, hbk] at hF1
    have hFk : s1.F k j = s0.F k j := by
      rw [hF1]
      show up s0.F t (fun c => s0.F t c + -q * s0.F k c) k j = _
      exact up_ne hkt j
    have hFt : s1.F t j = r := by
      rw [hF1]
      show up s0.F t (fun c => s0.F t c + -q * s0.F k c) t j = r
      rw [up_eq, ← hr, ← hq]
      have := Int.emod_add_mul_ediv (s0.F t j) (s0.F k j)
      rw [Int.mul_comm] at this
      rw [Int.neg_mul]; omega
    have hd1 := Fr.sds hF (n := n) (K := K) (Q := s1 :: Qr1) (by repeat (first | exact memH | apply memT))
    obtain ⟨x1t, y1t, hx1t, hq1t, hy1t, hc1t, hL1t, hK1t⟩ := q0_get hS1 hd1 ht hj
    obtain ⟨x1k, y1k, hx1k, hq1k, hy1k, hc1k, hL1k, hK1k⟩ := q0_get hS1 hd1 hk hj
    clear hd1
    rw [hFt] at hL1t
    rw [hFk] at hL1k
    have hg1 := hS1.g
    have hjc1 : j < s1.c := by rw [hS1.c]; exact hj
    have hnt1 : (s1 :: Qr1).map Sd.st = t0 :: Tr := hS1.st
    replace hF := Fr.addLI (Fr.addLI hF hL1t) hL1k
    clear hL1t hL1k
    refine T.cut (α := Nat × Nat) (fun z => [(0, .pointer (some ⟨lb, 0, none⟩)), (1, .int .i64 (k : Int)), (2, .int .i64 (t : Int)), (3, .int .i64 (j : Int)), (11, .pointer (some ⟨z.1, 0, none⟩)), (12, .pointer (some ⟨z.2, 0, none⟩))])
      (fun z w' => Fr w w' (⟨z.1, 43, [.bool y1k.neg, .slice y1k.m.A y1k.m.n y1k.m.c]⟩ :: ⟨z.2, 43, [.bool y1t.neg, .slice y1t.m.A y1t.m.n y1t.m.c]⟩ :: sdsL (s1 :: Qr1)) [dpLI (s0.F k j) y1k, dpLI r y1t, dpLd lb sb t0.g n m (t0 :: Tr), dpSds n K (s1 :: Qr1)] S) ?_ ?_
    · repeat' (first | (refine TL.isOp ?_; first | (refine TL.storeAFr hF rfl rfl rfl rfl (by refine ⟨?_, ?_⟩; (focus (repeat (first | apply SetV.head | apply SetV.tail))); rfl) rfl ?_; clear hF; intro ws hF) | (refine TL.allocFr hF (d := 11) rfl rfl ?_; clear hF; intro w11 b11 hF) | (refine TL.allocFr hF (d := 12) rfl rfl ?_; clear hF; intro w12 b12 hF)) | (refine TF.is ?_; first | refine TF.nil ?_ | refine TF.e rfl ?_ | refine TF.alt ?_ ?_ | (refine TF.pick rfl ?_; first | (apply TFo.ev; (case hd => rfl); (case h => (intro wh hF; first | exact ev_simple rfl | (apply Ev.isLoad; first | exact ev_loadV rfl (Fr.ld hF (by repeat (first | exact memH | apply memT))).ld rfl | exact ev_loadM rfl (rowq_sm (r := x1t) hF (by repeat (first | exact InV.qr hx1t | apply InV.tail))) hy1t | exact ev_loadM rfl (rowq_sm (r := x1k) hF (by repeat (first | exact InV.qr hx1k | apply InV.tail))) hy1k) | exact ev_fieldAddr rfl | exact ev_nilCheck rfl | exact ev_indexN rfl rfl hk (.inr rfl) | exact ev_indexN rfl rfl ht (.inr rfl) | exact ev_rowq hF rfl hx1t (by repeat (first | exact InV.q0 hg1 | apply InV.tail)) | exact ev_rowq hF rfl hx1k (by repeat (first | exact InV.q0 hg1 | apply InV.tail)) | exact ev_indexM rfl rfl hjc1 (.inr rfl)))))) | (refine T.is ?_; first | (refine T.regionFr hF 3 23 (.s 0 (.s 1 (.s 2 (.s 3 (.s 4 (.s 5 (.s 6 (.s 7 (.s 8 (.s 9 (.s 10 (.s 11 (.s 12 (.s 13 (.s 14 (.s 15 (.s 16 (.s 17 (.s 18 (.s 19 (.alt (.e 20 (.e 21 (.e 22 (.e 23 .nil)))) (.e 21 (.e 20 (.e 22 (.e 23 .nil))))))))))))))))))))))))) mixed (by kernel_rfl) ?_; clear hF; intro wr hF)) | (refine G.is ?_; first | refine G.only ?_ | refine G.treeEnd rfl ?_ | refine G.tree rfl (hF.weak (by repeat (first | exact List.Sublist.refl _ | apply List.Sublist.cons_cons | apply List.Sublist.cons)) (by repeat (first | exact allR | apply allT))) ?_) | refine TL.nil ?_)
      all_goals first
        | exact G.cut (b11, b12) (by repeat (first | exact Sub.nil _ | refine Sub.cons rfl ?_ | refine Sub.cons' rfl (int_congr (by omega)) ?_)) (hF.weak (.cons_cons _ (.cons_cons _ (.cons _ (.cons _ (.refl _))))) (allH (by repeat (first | exact memH | apply memT)) (allH (by repeat (first | exact memH | apply memT)) (allH (by repeat (first | exact memH | apply memT)) (allH (by repeat (first | exact memH | apply memT)) allN)))))
        | exact G.cut (b11, b12) (by repeat (first | exact Sub.nil _ | refine Sub.cons rfl ?_ | refine Sub.cons' rfl (int_congr (by omega)) ?_)) ((Fr.swap hF).weak (.cons_cons _ (.cons_cons _ (.cons _ (.cons _ (.refl _))))) (allH (by repeat (first | exact memH | apply memT)) (allH (by repeat (first | exact memH | apply memT)) (allH (by repeat (first | exact memH | apply memT)) (allH (by repeat (first | exact memH | apply memT)) allN)))))
    clear hF
    rintro ⟨b11, b12⟩ w4 hF
    dsimp only at hF ⊢
    repeat' (first | (refine TL.isOp ?_; first | (refine TL.isCall ?_; refine TL.call rfl rfl ?_; first | (refine (zext_ok _ y1k y1t (s0.F k j) r K (Fr.li hF (by repeat (first | exact memH | apply memT))) (Fr.li hF (by repeat (first | exact memH | apply memT))) h0 (by omega) (by omega) (by omega)).mono ?_; rintro _ w5 ⟨gi, xi, yi, zg, zx, zy, rfl, hLg, hLx, hLy, hok, hE, hKg, hKx, hKy⟩; obtain ⟨su, uu, hsu, huu, hdet⟩ := hok.det; have hgp := hok.pos; replace hF := Fr.addLI (Fr.addLI (Fr.addLI (hF.exts hE) hLg) hLx) hLy; clear hE hLg hLx hLy; refine Back.mk ?_) | (refine (zexact_ok _ y1k gi uu (Fr.li hF (z := s0.F k j) (by repeat (first | exact memH | apply memT))).g (Fr.li hF (z := zg) (by repeat (first | exact memH | apply memT))).g (by omega) (by omega) (by rw [(Fr.li hF (z := zg) (x := gi) (by repeat (first | exact memH | apply memT))).val]; omega) (by rw [(Fr.li hF (z := zg) (x := gi) (by repeat (first | exact memH | apply memT))).val, (Fr.li hF (z := s0.F k j) (x := y1k) (by repeat (first | exact memH | apply memT))).val, huu, Int.mul_comm])).mono ?_; rintro _ w5 ⟨ai, rfl, hL1, hE, hKa⟩; replace hF := Fr.addLI (hF.exts hE) hL1; clear hL1 hE; refine Back.mk ?_) | (refine (zexact_ok _ y1t gi su (Fr.li hF (z := r) (by repeat (first | exact memH | apply memT))).g (Fr.li hF (z := zg) (by repeat (first | exact memH | apply memT))).g (by omega) (by omega) (by rw [(Fr.li hF (z := zg) (x := gi) (by repeat (first | exact memH | apply memT))).val]; omega) (by rw [(Fr.li hF (z := zg) (x := gi) (by repeat (first | exact memH | apply memT))).val, (Fr.li hF (z := r) (x := y1t) (by repeat (first | exact memH | apply memT))).val, hsu, Int.mul_comm])).mono ?_; rintro _ w5 ⟨bi, rfl, hL1, hE, hKb⟩; replace hF := Fr.addLI (hF.exts hE) hL1; clear hL1 hE; refine Back.mk ?_) | (refine (zneg_ok _ bi (Fr.li hF (z := su) (by repeat (first | exact memH | apply memT))).g (by omega)).mono ?_; rintro _ w5 ⟨nb, rfl, hLu, hE, hKn⟩; rw [(Fr.li hF (z := su) (x := bi) (by repeat (first | exact memH | apply memT))).val] at hLu; replace hF := Fr.addLI (hF.exts hE) hLu; clear hE hLu; refine Back.mk ?_) | (refine (lmmix_ok _ lb sb t0.g n m K k t (s1 :: Qr1) xi yi nb ai zx zy (-su) uu _ hS1.shp (hS1.len hm) hk ht hkt (by omega) (by omega) (by omega) (by omega) (by omega) (by rw [hnt1]; exact Fr.subP [_, _, _, _, _, _, _] hF (allH (by repeat (first | exact memH | apply memT)) (allH (by repeat (first | exact memH | apply memT)) (allH (by repeat (first | exact memH | apply memT)) (allH (by repeat (first | exact memH | apply memT)) (allH (by repeat (first | exact memH | apply memT)) (allH (by repeat (first | exact memH | apply memT)) allN))))))) (hB2 h0 zg zx zy su uu hok hsu huu _ (hq ▸ hR1))).mono ?_; rintro _ w6 ⟨rfl, Q2, hR2, hF'⟩; replace hF := Fr.retQ [_, _, _, _, _, _, _] hF hR2.blk hF'; clear hF'; refine Back.mk ?_)) | (apply TL.ev; (case hd => rfl); (case h => (first | exact ev_simple rfl | (apply Ev.isLoad; first | exact ev_loadAFr hF rfl (by refine ⟨?_, ?_⟩; (focus (repeat (first | exact InV.head | apply InV.tail))); rfl))))) | (refine TL.storeAFr hF rfl rfl rfl rfl (by refine ⟨?_, ?_⟩; (focus (repeat (first | apply SetV.head | apply SetV.tail))); rfl) rfl ?_; clear hF; intro ws hF) | (refine TL.allocFr hF (d := 13) rfl rfl ?_; clear hF; intro w13 b13 hF) | (refine TL.allocFr hF (d := 14) rfl rfl ?_; clear hF; intro w14 b14 hF) | (refine TL.allocFr hF (d := 15) rfl rfl ?_; clear hF; intro w15 b15 hF) | (refine TL.allocFr hF (d := 16) rfl rfl ?_; clear hF; intro w16 b16 hF) | (refine TL.allocFr hF (d := 18) rfl rfl ?_; clear hF; intro w18 b18 hF)) | (refine TF.is ?_; first | refine TF.nil ?_ | refine TF.e rfl ?_ | (refine TF.pick rfl ?_; first | (apply TFo.ev; (case hd => rfl); (case h => (intro wh hF; first | exact ev_simple rfl | (apply Ev.isLoad; first | exact ev_loadAFr hF rfl (by refine ⟨?_, ?_⟩; (focus (repeat (first | exact InV.head | apply InV.tail))); rfl)) | exact ev_buildArr rfl rfl))))) | (refine T.is ?_; first | refine T.seq ?_ | refine T.region ?_ | (refine T.regionFr hF 7 11 (.s 0 (.s 1 (.s 2 (.s 3 (.s 4 (.s 5 (.s 6 (.s 8 (.e 7 (.s 9 (.s 10 (.e 11 .nil)))))))))))) mixed (by kernel_rfl) ?_; clear hF; intro wr hF)) | (refine G.is ?_; first | refine G.next ?_ | refine G.only ?_ | refine G.treeEnd rfl ?_ | refine G.tree rfl (by first | exact hF | exact hF.weak (List.sublist_append_right _ _) (by repeat (first | exact allR | apply allT)) | exact hF.weak (by repeat (first | exact List.Sublist.refl _ | apply List.Sublist.cons)) (by repeat (first | exact allR | apply allT)) | exact hF.weak (by repeat (first | exact List.Sublist.refl _ | apply List.Sublist.cons)) (by repeat (first | exact allN | refine allH (by repeat (first | exact memH | apply memT)) ?_))) ?_) | refine TL.nil ?_)
    all_goals exact G.end0 rfl ⟨rfl, Q2, .inr ⟨by rw [hr]; exact h0, zg, zx, zy, su, uu, by rw [hr]; exact hok, by rw [hr]; exact hsu, huu, s1 :: Qr1, by rw [hq]; exact hR1, hR2⟩, hR2.blk.trans hR1.blk, hF.weak (.cons _ (.cons _ (.cons _ (.cons _ (.cons _ (.cons _ (.cons _ (.refl _)))))))) (allH (by repeat (first | exact memH | apply memT)) allN)⟩
end Go.Proofs.YthlbihbchobllaaGreat

namespace Go.Det
theorem gr_ge {K M : Int} (hK : 0 ≤ K) (hM : 0 ≤ M) {n : Nat} (hn : 1 ≤ n) : K ≤ gr K M n := by
  obtain ⟨d, rfl⟩ : ∃ d, n = d + 1 := ⟨n - 1, by omega⟩
  have h1 := gr_nn hK hM d
  have h2 : (0 + 1) * (K + 1) ≤ (gr K M d + 1) * (K + 1) := Int.mul_le_mul_of_nonneg_right (by omega) (by omega)
  show K ≤ (gr K M d + 1) * (K + 1)
  omega
theorem gr_up {K M : Int} (hK : 0 ≤ K) (hM : 0 ≤ M) {d e : Nat} (h : d ≤ e) : gr K M d ≤ gr K M e := by
  obtain ⟨k, rfl⟩ : ∃ k, e = d + k := ⟨e - d, by omega⟩
  exact gr_mono hK hM d k
theorem Stl.all {n : Nat} {R : Mx} {J : Nat → Nat} {B M : Int} {i k : Nat} (h : Stl n R J B M i k) (hM : 0 ≤ M) (hB : 0 ≤ B) (hk : k ≤ n) : ∀ p c, p < n → Bd (gr (n * (B * B)) M n) (R p c) := fun p c hp => by
  have hK : 0 ≤ (n : Int) * (B * B) := Int.mul_nonneg (Int.natCast_nonneg _) (Int.mul_nonneg hB hB)
  have h0 : M ≤ gr (n * (B * B)) M n := gr_up hK hM (Nat.zero_le n)
  rcases Nat.lt_trichotomy p i with h1 | h1 | h1
  · exact (h.hi p c h1).mono h0
  · subst h1
    exact (h.own c).mono (gr_up hK hM (by omega))
  · exact (h.low h1 hp c).mono (gr_ge hK hM (by omega))
/-- what is kept by all operations on the first r rows -/
def Inv (r : Nat) (I : List (Bool × Mx) → Prop) : Prop := ∀ o fs, Opn.ok r o → I fs → I (fs.map (fun x => (x.1, o.on x.1 x.2)))
theorem Inv.mono {r t : Nat} {I : List (Bool × Mx) → Prop} (h : Inv t I) (hr : r ≤ t) : Inv r I := fun o fs ho hi => h o fs (ho.mono hr) hi
theorem gr_mono2 {K K' M : Int} (hK : 0 ≤ K) (hM : 0 ≤ M) (h : K ≤ K') : ∀ d, gr K M d ≤ gr K' M d
  | 0 => Int.le_refl _
  | d + 1 => by
    have ih := gr_mono2 hK hM h d
    have h1 := gr_nn hK hM d
    exact Int.le_trans (Int.mul_le_mul_of_nonneg_right (show gr K M d + 1 ≤ gr K' M d + 1 by omega) (show 0 ≤ K + 1 by omega)) (Int.mul_le_mul_of_nonneg_left (show K + 1 ≤ K' + 1 by omega) (by omega))
/-- settle's bound for t rows is within that for t + 1 -/
theorem gr_next {B M : Int} {t : Nat} (hB : 0 ≤ B) (hM : 0 ≤ M) : gr (t * (B * B)) M t ≤ gr ((t + 1 : Nat) * (B * B)) M (t + 1) := by
  have h2 := Int.mul_nonneg hB hB
  have h1 : 0 ≤ (t : Int) * (B * B) := Int.mul_nonneg (Int.natCast_nonneg _) h2
  have h3 : (t : Int) * (B * B) ≤ ((t + 1 : Nat) : Int) * (B * B) := Int.mul_le_mul_of_nonneg_right (by omega) h2
  exact Int.le_trans (gr_mono2 h1 hM h3 t) (gr_up (by omega) hM (Nat.le_succ t))
theorem Bd.up {X : Int} {F : Mx} {r t : Nat} {v : Nat → Int} (h : ∀ p c, p < r → Bd X (F p c)) (hv : ∀ c, Bd X (v c)) : ∀ p c, p < r → Bd X (up F t v p c) := fun p c hp => by
  unfold Go.Det.up
  split
  · exact hv c
  · exact h p c hp
theorem insR_in {F : Mx} {t i p : Nat} (hi : i ≤ t) (hp : p ≤ t) : ∃ q, q ≤ t ∧ insR F t i p = F q := by
  unfold insR
  by_cases h1 : p < i
  · exact ⟨p, hp, by funext c; rw [if_pos h1]⟩
  · by_cases h2 : p = i
    · exact ⟨t, Nat.le_refl _, by funext c; rw [if_neg h1, if_pos h2]⟩
    · exact ⟨p - 1, by omega, by funext c; rw [if_neg h1, if_neg h2, if_pos hp]⟩
theorem Ech.mono_le {n : Nat} {R : Mx} {J : Nat → Nat} (h : Ech n R J) {i k : Nat} (hik : i ≤ k) (hk : k < n) : J i ≤ J k := by
  rcases Nat.lt_or_ge i k with h1 | h1
  · exact Nat.le_of_lt (h.inc i k h1 hk)
  · obtain rfl : i = k := by omega
    exact Nat.le_refl _
end Go.Det
