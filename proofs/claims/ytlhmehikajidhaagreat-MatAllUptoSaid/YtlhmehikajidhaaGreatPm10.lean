/- The document's answers for layer 5: Neg, Add, Sub, Mul, MulAdd; sizes told by the numbers. The document's answers for layer 9: outside, blank, Make, Least, Zero, Unit, Turn. The document's answers for layer 9: Turn; unsound matrices. -/
import Derived.Test.YtlhmehikajidhaaGreatPm6
import Derived.Test.YtlhmehikajidhaaGreatPm9
import Derived.Test.YtlhmehikajidhaaGreatPm7
set_option maxHeartbeats 2000000
set_option linter.unusedVariables false
set_option linter.unusedSimpArgs false
namespace Go.Proofs.YtlhmehikajidhaaGreat
open Go Go.Eng Go.Proofs Go.NatM Go.RowKit
theorem LI.nle {H : Array Obj} {z : Int} {x : IV} {k : Nat} (h : LI H z x) (hz : z.natAbs < 18446744073709551616 ^ k) : x.m.n ≤ k := by
  rw [← h.g.s.len, h.d]; exact dig_length_le hz
theorem GI.abs_lt {H : Array Obj} {x : IV} (g : GI H x) : (ival x).natAbs < 18446744073709551616 ^ x.m.n := by
  rw [ival_abs]
  have := val_lt g.u
  rwa [g.s.len] at this
theorem RetZ.tight {w w' : World} {z : Int} {K k : Nat} {e : Ending} (h : RetZ w z K e w') (hz : z.natAbs < 18446744073709551616 ^ k) : RetZ w z k e w' := by
  obtain ⟨x, e1, h1, h2, _⟩ := h
  exact ⟨x, e1, h1, h2, h1.nle hz⟩
theorem wpow_mono {a b : Nat} (h : a ≤ b) : 18446744073709551616 ^ a ≤ 18446744073709551616 ^ b := Nat.pow_le_pow_right (by decide) h
theorem add_lt {a b : Int} {m n : Nat} (ha : a.natAbs < 18446744073709551616 ^ m) (hb : b.natAbs < 18446744073709551616 ^ n) : (a + b).natAbs < 18446744073709551616 ^ (max m n + 1) := by
  have h1 := wpow_mono (Nat.le_max_left m n)
  have h2 := wpow_mono (Nat.le_max_right m n)
  have h3 := Int.natAbs_add_le a b
  rw [Nat.pow_succ]
  omega
theorem mul_lt {a b : Int} {m n : Nat} (ha : a.natAbs < 18446744073709551616 ^ m) (hb : b.natAbs < 18446744073709551616 ^ n) : (a * b).natAbs < 18446744073709551616 ^ (m + n) := by
  rw [Int.natAbs_mul, Nat.pow_add]
  have h1 : 0 < 18446744073709551616 ^ m := Nat.pow_pos (by decide)
  have h2 : 0 < 18446744073709551616 ^ n := Nat.pow_pos (by decide)
  exact Nat.mul_lt_mul_of_lt_of_le ha (Nat.le_of_lt hb) h2
theorem r5least_t (w : World) (x : IV) (g : GI w.heap x) (hn : x.m.n ≤ 1099511627776) : Cl Tryz.prog 21 #[.agg (ivc x).toArray] w (RetZ w (ival x) x.m.n) :=
  (r5least_ok w x g hn).mono fun _ _ h => h.tight g.abs_lt
theorem r5add_same (w : World) (x y : IV) (gx : GI w.heap x) (gy : GI w.heap y) (hx : x.m.n ≤ 1048576000) (hy : y.m.n ≤ 1048576000) (hxy : x.neg = y.neg) : Cl Tryz.prog 72 #[.agg (ivc x).toArray, .agg (ivc y).toArray] w (RetZ w (ival x + ival y) (max x.m.n y.m.n + 3)) := by
  have e : ival x + ival y = sgn x.neg (val x.m.l + val y.m.l) := by unfold ival sgn; rw [← hxy]; split <;> omega
  rw [e]
  refine enter Tryz.func72 rfl rfl rfl ?_
  have hF := Fr.refl w
  repeat' (first | (refine TL.isOp ?_; first | (refine TL.isG ?_; first | refine TL.grun rfl rfl rfl ?_ | refine TL.gskip rfl rfl rfl rfl ?_ | refine TL.gskipU rfl rfl rfl ?_) | (refine TL.isCall ?_; refine TL.call rfl rfl ?_; first | (refine (radd_ok _ _ _ _ _ _ _ _ _ _ _ (gx.s.ext hF.ext) (gy.s.ext hF.ext) gx.u gy.u (by omega) (by omega)).mono ?_; rintro _ wl ⟨Al, nl, cl, rfl, hOl, hE, hKl⟩; have hSl := hOl.sl (Nat.le_refl _); replace hF := Fr.addSl (hF.exts hE) hSl; clear hOl hE; refine Back.mk ?_) | (refine (made_ok _ _ _ _ _ _ (Fr.sl hF (A := Al) (by repeat (first | exact memH | apply memT))) (U64_dig _) (by omega)).mono ?_; rintro _ w1 ⟨z, rfl, hL, hE, hK⟩; rw [val_dig] at hL; replace hF := Fr.addLI (hF.exts hE) hL; clear hE; refine Back.mk ?_)) | (refine TL.isBin ?_; refine TL.cmpG rfl rfl rfl rfl (fun hc => ?_) (fun hc => ?_) <;> (try (first | (exfalso; omega) | exact absurd rfl hc))) | (apply TL.ev; (case hd => rfl); (case h => (first | exact ev_simple rfl | (apply Ev.isBin; first | exact ev_arN rfl rfl rfl (by omega) | exact ev_arI rfl rfl rfl (by omega) | exact ev_eqlB (r := true) rfl rfl rfl | exact ev_eqlB (r := false) rfl rfl rfl | exact ev_neqB (r := true) rfl rfl rfl | exact ev_neqB (r := false) rfl rfl rfl | exact ev_eqlB (r := true) rfl rfl (by rw [hxy]; exact beq_self_eq_true _)) | (apply Ev.isLoad; first | exact ev_loadFr hF rfl (by refine ⟨?_, ?_⟩; (focus (repeat (first | exact InV.head | apply InV.tail))); rfl) | exact ev_loadAFr hF rfl (by refine ⟨?_, ?_⟩; (focus (repeat (first | exact InV.head | apply InV.tail))); rfl)) | exact ev_len rfl | exact ev_fieldAddr rfl | exact ev_field rfl rfl | exact ev_fieldA rfl rfl | exact ev_buildX rfl rfl | exact ev_makeFunc rfl | exact ev_nilCheck rfl | exact ev_neg rfl (by omega) | exact ev_cap rfl))) | (refine TL.storeAFr hF rfl rfl rfl rfl (by refine ⟨?_, ?_⟩; (focus (repeat (first | apply SetV.head | apply SetV.tail))); rfl) rfl ?_; clear hF; intro ws hF) | (refine TL.storeFr hF rfl rfl rfl rfl (by refine ⟨?_, ?_⟩; (focus (repeat (first | apply SetV.head | apply SetV.tail))); rfl) rfl ?_; clear hF; intro ws hF) | (refine TL.boxAFr hF (d := 2) (cs := ivc x) rfl rfl ?_; clear hF; intro w2 b2 hF) | (refine TL.boxAFr hF (d := 3) (cs := ivc y) rfl rfl ?_; clear hF; intro w3 b3 hF) | (refine TL.allocFr hF (d := 4) rfl rfl ?_; clear hF; intro w4 b4 hF) | (refine TL.boxAFr hF rfl rfl ?_; clear hF; intro wb bb hF) | (refine TL.boxFr hF rfl rfl ?_; clear hF; intro wb bb hF) | (refine TL.allocFr hF rfl rfl ?_; clear hF; intro wa ba hF)) | (refine T.is ?_; first | refine T.seq ?_ | refine T.region ?_ | refine T.block ?_ | refine T.cond_t rfl ?_ | refine T.cond_f rfl ?_ | refine T.exit ?_ | refine T.ret ?_ | refine T.skip ?_ | refine T.regionQ mixed (by kernel_rfl) ?_) | (refine G.is ?_; first | refine G.next ?_ | refine G.blockN ?_ | refine G.blockE ?_ | refine G.blockE' rfl ?_ | refine G.blockR ?_ | refine G.thenE ?_ | refine G.thenR ?_ | refine G.only ?_) | refine TL.nil ?_ | (refine TL.nilFr hF ?_; clear hF; intro wq hF))
  exact G.retC1 rfl rfl (held_agg (hF.var (by repeat (first | exact InV.head | apply InV.tail))) rfl) ⟨z, rfl, Fr.li hF (by repeat (first | exact memH | apply memT)), hF.ext, by omega⟩
theorem r5add_lt (w : World) (x y : IV) (gx : GI w.heap x) (gy : GI w.heap y) (hx : x.m.n ≤ 1048576000) (hy : y.m.n ≤ 1048576000) (hxy : (x.neg == y.neg) = false) {q : Int} (hq : cmp3 (val x.m.l) (val y.m.l) = q) (hq0 : q < 0) (hle : val x.m.l ≤ val y.m.l) : Cl Tryz.prog 72 #[.agg (ivc x).toArray, .agg (ivc y).toArray] w (RetZ w (sgn y.neg (val y.m.l - val x.m.l)) (max x.m.n y.m.n + 3)) := by
  refine enter Tryz.func72 rfl rfl rfl ?_
  have hF := Fr.refl w
  have hcm := fun w1 (hE : Ext w w1) => rcmp_ok w1 _ _ _ _ _ _ _ _ _ _ (gx.s.ext hE) (gy.s.ext hE) gx.u gy.u (by omega) (by omega)
  rw [hq] at hcm
  repeat' (first | (refine TL.isOp ?_; first | (refine TL.isG ?_; first | refine TL.grun rfl rfl rfl ?_ | refine TL.gskip rfl rfl rfl rfl ?_ | refine TL.gskipU rfl rfl rfl ?_) | (refine TL.isCall ?_; refine TL.call rfl rfl ?_; first | (refine (hcm _ hF.ext).mono ?_; rintro _ wl ⟨rfl, hE⟩; replace hF := hF.exts hE; clear hE; refine Back.mk ?_) | (refine (rsub_ok _ _ _ _ _ _ _ _ _ _ _ (gy.s.ext hF.ext) (gx.s.ext hF.ext) gy.u gx.u (by omega) (by omega) hle).mono ?_; rintro _ wl ⟨Al, nl, cl, rfl, hOl, hE, hKl⟩; have hSl := hOl.sl (Nat.le_refl _); replace hF := Fr.addSl (hF.exts hE) hSl; clear hOl hE; refine Back.mk ?_) | (refine (made_ok _ _ _ _ _ _ (Fr.sl hF (A := Al) (by repeat (first | exact memH | apply memT))) (U64_dig _) (by omega)).mono ?_; rintro _ w1 ⟨z, rfl, hL, hE, hK⟩; rw [val_dig] at hL; replace hF := Fr.addLI (hF.exts hE) hL; clear hE; refine Back.mk ?_)) | (refine TL.isBin ?_; refine TL.cmpG rfl rfl rfl rfl (fun hc => ?_) (fun hc => ?_) <;> (try (first | (exfalso; omega) | exact absurd rfl hc))) | (apply TL.ev; (case hd => rfl); (case h => (first | exact ev_simple rfl | (apply Ev.isBin; first | exact ev_arN rfl rfl rfl (by omega) | exact ev_arI rfl rfl rfl (by omega) | exact ev_eqlB (r := true) rfl rfl rfl | exact ev_eqlB (r := false) rfl rfl rfl | exact ev_neqB (r := true) rfl rfl rfl | exact ev_neqB (r := false) rfl rfl rfl | exact ev_eqlB (r := false) rfl rfl hxy) | (apply Ev.isLoad; first | exact ev_loadFr hF rfl (by refine ⟨?_, ?_⟩; (focus (repeat (first | exact InV.head | apply InV.tail))); rfl) | exact ev_loadAFr hF rfl (by refine ⟨?_, ?_⟩; (focus (repeat (first | exact InV.head | apply InV.tail))); rfl)) | exact ev_len rfl | exact ev_fieldAddr rfl | exact ev_field rfl rfl | exact ev_fieldA rfl rfl | exact ev_buildX rfl rfl | exact ev_makeFunc rfl | exact ev_nilCheck rfl | exact ev_neg rfl (by omega) | exact ev_cap rfl))) | (refine TL.storeAFr hF rfl rfl rfl rfl (by refine ⟨?_, ?_⟩; (focus (repeat (first | apply SetV.head | apply SetV.tail))); rfl) rfl ?_; clear hF; intro ws hF) | (refine TL.storeFr hF rfl rfl rfl rfl (by refine ⟨?_, ?_⟩; (focus (repeat (first | apply SetV.head | apply SetV.tail))); rfl) rfl ?_; clear hF; intro ws hF) | (refine TL.boxAFr hF (d := 2) (cs := ivc x) rfl rfl ?_; clear hF; intro w2 b2 hF) | (refine TL.boxAFr hF (d := 3) (cs := ivc y) rfl rfl ?_; clear hF; intro w3 b3 hF) | (refine TL.allocFr hF (d := 4) rfl rfl ?_; clear hF; intro w4 b4 hF) | (refine TL.boxAFr hF rfl rfl ?_; clear hF; intro wb bb hF) | (refine TL.boxFr hF rfl rfl ?_; clear hF; intro wb bb hF) | (refine TL.allocFr hF rfl rfl ?_; clear hF; intro wa ba hF)) | (refine T.is ?_; first | refine T.seq ?_ | refine T.region ?_ | refine T.block ?_ | refine T.cond_t rfl ?_ | refine T.cond_f rfl ?_ | refine T.exit ?_ | refine T.ret ?_ | refine T.skip ?_ | refine T.regionQ mixed (by kernel_rfl) ?_) | (refine G.is ?_; first | refine G.next ?_ | refine G.blockN ?_ | refine G.blockE ?_ | refine G.blockE' rfl ?_ | refine G.blockR ?_ | refine G.thenE ?_ | refine G.thenR ?_ | refine G.only ?_) | refine TL.nil ?_ | (refine TL.nilFr hF ?_; clear hF; intro wq hF))
  exact G.retC1 rfl rfl (held_agg (hF.var (by repeat (first | exact InV.head | apply InV.tail))) rfl) ⟨z, rfl, Fr.li hF (by repeat (first | exact memH | apply memT)), hF.ext, by omega⟩
theorem r5add_ge (w : World) (x y : IV) (gx : GI w.heap x) (gy : GI w.heap y) (hx : x.m.n ≤ 1048576000) (hy : y.m.n ≤ 1048576000) (hxy : (x.neg == y.neg) = false) {q : Int} (hq : cmp3 (val x.m.l) (val y.m.l) = q) (hq0 : ¬ q < 0) (hle : val y.m.l ≤ val x.m.l) : Cl Tryz.prog 72 #[.agg (ivc x).toArray, .agg (ivc y).toArray] w (RetZ w (sgn x.neg (val x.m.l - val y.m.l)) (max x.m.n y.m.n + 3)) := by
  refine enter Tryz.func72 rfl rfl rfl ?_
  have hF := Fr.refl w
  have hcm := fun w1 (hE : Ext w w1) => rcmp_ok w1 _ _ _ _ _ _ _ _ _ _ (gx.s.ext hE) (gy.s.ext hE) gx.u gy.u (by omega) (by omega)
  rw [hq] at hcm
  repeat' (first | (refine TL.isOp ?_; first | (refine TL.isG ?_; first | refine TL.grun rfl rfl rfl ?_ | refine TL.gskip rfl rfl rfl rfl ?_ | refine TL.gskipU rfl rfl rfl ?_) | (refine TL.isCall ?_; refine TL.call rfl rfl ?_; first | (refine (hcm _ hF.ext).mono ?_; rintro _ wl ⟨rfl, hE⟩; replace hF := hF.exts hE; clear hE; refine Back.mk ?_) | (refine (rsub_ok _ _ _ _ _ _ _ _ _ _ _ (gx.s.ext hF.ext) (gy.s.ext hF.ext) gx.u gy.u (by omega) (by omega) hle).mono ?_; rintro _ wl ⟨Al, nl, cl, rfl, hOl, hE, hKl⟩; have hSl := hOl.sl (Nat.le_refl _); replace hF := Fr.addSl (hF.exts hE) hSl; clear hOl hE; refine Back.mk ?_) | (refine (made_ok _ _ _ _ _ _ (Fr.sl hF (A := Al) (by repeat (first | exact memH | apply memT))) (U64_dig _) (by omega)).mono ?_; rintro _ w1 ⟨z, rfl, hL, hE, hK⟩; rw [val_dig] at hL; replace hF := Fr.addLI (hF.exts hE) hL; clear hE; refine Back.mk ?_)) | (refine TL.isBin ?_; refine TL.cmpG rfl rfl rfl rfl (fun hc => ?_) (fun hc => ?_) <;> (try (first | (exfalso; omega) | exact absurd rfl hc))) | (apply TL.ev; (case hd => rfl); (case h => (first | exact ev_simple rfl | (apply Ev.isBin; first | exact ev_arN rfl rfl rfl (by omega) | exact ev_arI rfl rfl rfl (by omega) | exact ev_eqlB (r := true) rfl rfl rfl | exact ev_eqlB (r := false) rfl rfl rfl | exact ev_neqB (r := true) rfl rfl rfl | exact ev_neqB (r := false) rfl rfl rfl | exact ev_eqlB (r := false) rfl rfl hxy) | (apply Ev.isLoad; first | exact ev_loadFr hF rfl (by refine ⟨?_, ?_⟩; (focus (repeat (first | exact InV.head | apply InV.tail))); rfl) | exact ev_loadAFr hF rfl (by refine ⟨?_, ?_⟩; (focus (repeat (first | exact InV.head | apply InV.tail))); rfl)) | exact ev_len rfl | exact ev_fieldAddr rfl | exact ev_field rfl rfl | exact ev_fieldA rfl rfl | exact ev_buildX rfl rfl | exact ev_makeFunc rfl | exact ev_nilCheck rfl | exact ev_neg rfl (by omega) | exact ev_cap rfl))) | (refine TL.storeAFr hF rfl rfl rfl rfl (by refine ⟨?_, ?_⟩; (focus (repeat (first | apply SetV.head | apply SetV.tail))); rfl) rfl ?_; clear hF; intro ws hF) | (refine TL.storeFr hF rfl rfl rfl rfl (by refine ⟨?_, ?_⟩; (focus (repeat (first | apply SetV.head | apply SetV.tail))); rfl) rfl ?_; clear hF; intro ws hF) | (refine TL.boxAFr hF (d := 2) (cs := ivc x) rfl rfl ?_; clear hF; intro w2 b2 hF) | (refine TL.boxAFr hF (d := 3) (cs := ivc y) rfl rfl ?_; clear hF; intro w3 b3 hF) | (refine TL.allocFr hF (d := 4) rfl rfl ?_; clear hF; intro w4 b4 hF) | (refine TL.boxAFr hF rfl rfl ?_; clear hF; intro wb bb hF) | (refine TL.boxFr hF rfl rfl ?_; clear hF; intro wb bb hF) | (refine TL.allocFr hF rfl rfl ?_; clear hF; intro wa ba hF)) | (refine T.is ?_; first | refine T.seq ?_ | refine T.region ?_ | refine T.block ?_ | refine T.cond_t rfl ?_ | refine T.cond_f rfl ?_ | refine T.exit ?_ | refine T.ret ?_ | refine T.skip ?_ | refine T.regionQ mixed (by kernel_rfl) ?_) | (refine G.is ?_; first | refine G.next ?_ | refine G.blockN ?_ | refine G.blockE ?_ | refine G.blockE' rfl ?_ | refine G.blockR ?_ | refine G.thenE ?_ | refine G.thenR ?_ | refine G.only ?_) | refine TL.nil ?_ | (refine TL.nilFr hF ?_; clear hF; intro wq hF))
  exact G.retC1 rfl rfl (held_agg (hF.var (by repeat (first | exact InV.head | apply InV.tail))) rfl) ⟨z, rfl, Fr.li hF (by repeat (first | exact memH | apply memT)), hF.ext, by omega⟩
theorem r5add_ok (w : World) (x y : IV) (gx : GI w.heap x) (gy : GI w.heap y) (hx : x.m.n ≤ 1048576000) (hy : y.m.n ≤ 1048576000) : Cl Tryz.prog 72 #[.agg (ivc x).toArray, .agg (ivc y).toArray] w (RetZ w (ival x + ival y) (max x.m.n y.m.n + 1)) := by
  refine Cl.mono (R := RetZ w (ival x + ival y) (max x.m.n y.m.n + 3)) ?_ fun _ _ h => h.tight (add_lt gx.abs_lt gy.abs_lt)
  by_cases hxy : x.neg = y.neg
  · exact r5add_same w x y gx gy hx hy hxy
  · have hb : (x.neg == y.neg) = false := by simpa using hxy
    rcases Nat.lt_or_ge (val x.m.l) (val y.m.l) with h | h
    · have e : ival x + ival y = sgn y.neg (val y.m.l - val x.m.l) := by unfold ival sgn; cases hx1 : x.neg <;> cases hy1 : y.neg <;> simp_all <;> omega
      rw [e]
      exact r5add_lt w x y gx gy hx hy hb rfl (by rw [cmp3, if_pos h]; omega) (by omega)
    · have e : ival x + ival y = sgn x.neg (val x.m.l - val y.m.l) := by unfold ival sgn; cases hx1 : x.neg <;> cases hy1 : y.neg <;> simp_all <;> omega
      rw [e]
      exact r5add_ge w x y gx gy hx hy hb rfl (by rw [cmp3, if_neg (by omega)]; split <;> omega) h
theorem r5mul_ok (w : World) (x y : IV) (gx : GI w.heap x) (gy : GI w.heap y) (hx : x.m.n ≤ 536870912) (hy : y.m.n ≤ 536870912) : Cl Tryz.prog 74 #[.agg (ivc x).toArray, .agg (ivc y).toArray] w (RetZ w (ival x * ival y) (x.m.n + y.m.n)) := by
  refine Cl.mono (R := RetZ w (ival x * ival y) (x.m.n + y.m.n + 1)) ?_ fun _ _ h => h.tight (mul_lt gx.abs_lt gy.abs_lt)
  have e : ival x * ival y = sgn (x.neg != y.neg) (val x.m.l * val y.m.l) := by unfold ival; rw [← sgn_mul]
  rw [e]
  refine enter Tryz.func74 rfl rfl rfl ?_
  have hF := Fr.refl w
  repeat' (first | (refine TL.isOp ?_; first | (refine TL.isG ?_; first | refine TL.grun rfl rfl rfl ?_ | refine TL.gskip rfl rfl rfl rfl ?_ | refine TL.gskipU rfl rfl rfl ?_) | (refine TL.isCall ?_; refine TL.call rfl rfl ?_; first | (refine (xmul_ok _ _ _ _ _ _ _ _ _ _ _ (gx.s.ext hF.ext) (gy.s.ext hF.ext) gx.u gy.u (by omega) (by omega)).mono ?_; rintro _ wl ⟨Al, nl, cl, rfl, hOl, hE, hKl⟩; have hSl := hOl.sl (Nat.le_refl _); replace hF := Fr.addSl (hF.exts hE) hSl; clear hOl hE; refine Back.mk ?_) | (refine (made_ok _ _ _ _ _ _ (Fr.sl hF (A := Al) (by repeat (first | exact memH | apply memT))) (U64_dig _) (by omega)).mono ?_; rintro _ w1 ⟨z, rfl, hL, hE, hK⟩; rw [val_dig] at hL; replace hF := Fr.addLI (hF.exts hE) hL; clear hE; refine Back.mk ?_)) | (refine TL.isBin ?_; refine TL.cmpG rfl rfl rfl rfl (fun hc => ?_) (fun hc => ?_) <;> (try (first | (exfalso; omega) | exact absurd rfl hc))) | (apply TL.ev; (case hd => rfl); (case h => (first | exact ev_simple rfl | (apply Ev.isBin; first | exact ev_arN rfl rfl rfl (by omega) | exact ev_arI rfl rfl rfl (by omega) | exact ev_eqlB (r := true) rfl rfl rfl | exact ev_eqlB (r := false) rfl rfl rfl | exact ev_neqB (r := true) rfl rfl rfl | exact ev_neqB (r := false) rfl rfl rfl | exact ev_neqB (r := x.neg != y.neg) rfl rfl rfl) | (apply Ev.isLoad; first | exact ev_loadFr hF rfl (by refine ⟨?_, ?_⟩; (focus (repeat (first | exact InV.head | apply InV.tail))); rfl) | exact ev_loadAFr hF rfl (by refine ⟨?_, ?_⟩; (focus (repeat (first | exact InV.head | apply InV.tail))); rfl)) | exact ev_len rfl | exact ev_fieldAddr rfl | exact ev_field rfl rfl | exact ev_fieldA rfl rfl | exact ev_buildX rfl rfl | exact ev_makeFunc rfl | exact ev_nilCheck rfl | exact ev_neg rfl (by omega) | exact ev_cap rfl))) | (refine TL.storeAFr hF rfl rfl rfl rfl (by refine ⟨?_, ?_⟩; (focus (repeat (first | apply SetV.head | apply SetV.tail))); rfl) rfl ?_; clear hF; intro ws hF) | (refine TL.storeFr hF rfl rfl rfl rfl (by refine ⟨?_, ?_⟩; (focus (repeat (first | apply SetV.head | apply SetV.tail))); rfl) rfl ?_; clear hF; intro ws hF) | (refine TL.boxAFr hF (d := 2) (cs := ivc x) rfl rfl ?_; clear hF; intro w2 b2 hF) | (refine TL.boxAFr hF (d := 3) (cs := ivc y) rfl rfl ?_; clear hF; intro w3 b3 hF) | (refine TL.allocFr hF (d := 4) rfl rfl ?_; clear hF; intro w4 b4 hF) | (refine TL.boxAFr hF rfl rfl ?_; clear hF; intro wb bb hF) | (refine TL.boxFr hF rfl rfl ?_; clear hF; intro wb bb hF) | (refine TL.allocFr hF rfl rfl ?_; clear hF; intro wa ba hF)) | (refine T.is ?_; first | refine T.seq ?_ | refine T.region ?_ | refine T.block ?_ | refine T.cond_t rfl ?_ | refine T.cond_f rfl ?_ | refine T.exit ?_ | refine T.ret ?_ | refine T.skip ?_ | refine T.regionQ mixed (by kernel_rfl) ?_) | (refine G.is ?_; first | refine G.next ?_ | refine G.blockN ?_ | refine G.blockE ?_ | refine G.blockE' rfl ?_ | refine G.blockR ?_ | refine G.thenE ?_ | refine G.thenR ?_ | refine G.only ?_) | refine TL.nil ?_ | (refine TL.nilFr hF ?_; clear hF; intro wq hF))
  exact G.retC1 rfl rfl (held_agg (hF.var (by repeat (first | exact InV.head | apply InV.tail))) rfl) ⟨z, rfl, Fr.li hF (by repeat (first | exact memH | apply memT)), hF.ext, by omega⟩
theorem r5mulAdd_ok (w : World) (x y z : IV) (gx : GI w.heap x) (gy : GI w.heap y) (gz : GI w.heap z) (hx : x.m.n ≤ 523000000) (hy : y.m.n ≤ 523000000) (hz : z.m.n ≤ 1048576000) : Cl Tryz.prog 75 #[.agg (ivc x).toArray, .agg (ivc y).toArray, .agg (ivc z).toArray] w (RetZ w (ival x * ival y + ival z) (max (x.m.n + y.m.n) z.m.n + 1)) := by
  refine enter Tryz.func75 rfl rfl rfl ?_
  have hF := Fr.refl w
  repeat' (first | (refine TL.isOp ?_; first | (refine TL.isCall ?_; refine TL.call rfl rfl ?_; first | (refine (r5mul_ok _ x y (gx.ext hF.ext) (gy.ext hF.ext) (by omega) (by omega)).mono ?_; rintro _ wm ⟨p, rfl, hLp, hE, hKp⟩; replace hF := Fr.addLI (hF.exts hE) hLp; clear hE; refine Back.mk ?_) | (refine (r5add_ok _ p z (Fr.li hF (by repeat (first | exact memH | apply memT))).g (gz.ext hF.ext) (by omega) (by omega)).mono ?_; rintro _ wo ⟨s, rfl, hLs, hE, hKs⟩; rw [hLp.val] at hLs; replace hF := Fr.addLI (hF.exts hE) hLs; clear hE; refine Back.mk ?_)) | (apply TL.ev; (case hd => rfl); (case h => (first | (apply Ev.isLoad; first | exact ev_loadAFr hF rfl (by refine ⟨?_, ?_⟩; (focus (repeat (first | exact InV.head | apply InV.tail))); rfl))))) | (refine TL.storeAFr hF rfl rfl rfl rfl (by refine ⟨?_, ?_⟩; (focus (repeat (first | apply SetV.head | apply SetV.tail))); rfl) rfl ?_; clear hF; intro ws hF) | (refine TL.boxAFr hF (d := 3) (cs := ivc x) rfl rfl ?_; clear hF; intro w3 b3 hF) | (refine TL.boxAFr hF (d := 4) (cs := ivc y) rfl rfl ?_; clear hF; intro w4 b4 hF) | (refine TL.boxAFr hF (d := 5) (cs := ivc z) rfl rfl ?_; clear hF; intro w5 b5 hF) | (refine TL.allocFr hF (d := 6) rfl rfl ?_; clear hF; intro w6 b6 hF) | (refine TL.allocFr hF (d := 7) rfl rfl ?_; clear hF; intro w7 b7 hF)) | (refine T.is ?_; first | refine T.seq ?_ | refine T.region ?_ | refine T.ret ?_) | (refine G.is ?_; first | refine G.next ?_) | refine TL.nil ?_)
  exact G.retC1 rfl rfl (held_agg (hF.var (by repeat (first | exact InV.head | apply InV.tail))) rfl) ⟨s, rfl, Fr.li hF (by repeat (first | exact memH | apply memT)), hF.ext, by omega⟩
end Go.Proofs.YtlhmehikajidhaaGreat
namespace Go.Proofs.YtlhmehikajidhaaGreat
open Go Go.Eng Go.Proofs Go.NatM Go.RowKit
theorem LsK.setAtN {H : Array Obj} {c : Nat} {l : List IV} {Z Z' : Nat → Int} {q K : Nat} {u : IV} (h : LsK c l Z K H) (hq : q < l.length) (hu : LI H (Z' q) u) (hn : u.m.n ≤ K) (e : ∀ p, p ≠ q → Z' p = Z p) : LsK c (l.set q u) Z' K H := by
  intro p hp
  by_cases hpq : p = q
  · subst hpq
    have e1 : (l.set p u).getD p default = u := by simp [List.getD, hq]
    rw [e1]; exact ⟨hu, hn⟩
  · have e1 : (l.set q u).getD p default = l.getD p default := by simp [List.getD, List.getElem?_set_ne (fun h => hpq h.symm)]
    rw [e1, e p hpq]; exact h p hp
theorem LsK.congrN {H : Array Obj} {c K : Nat} {l : List IV} {Z Z' : Nat → Int} (h : LsK c l Z K H) (e : ∀ q, q < c → Z q = Z' q) : LsK c l Z' K H := fun q hq => by rw [← e q hq]; exact h q hq
theorem Fr.joinN {S : Nat → Prop} {w0 w w' : World} {L L' : List VB} {D D' : List DP} (h : Fr w0 w L D S) (h' : Fr w w' L' D') (hfp : ∀ d ∈ D', ∀ k, ¬ d.fp k) : Fr w0 w' (L' ++ L) (D' ++ D) S := by
  have hE := h'.ext
  have h1 := h.exts hE
  refine ⟨h1.exs, fun v hv => ?_, List.pairwise_append.2 ⟨h'.dist, h.dist, fun x hx y hy e => ?_⟩, fun d hd => ?_, fun v hv d hd => ?_⟩
  · rcases List.mem_append.1 hv with hv | hv
    · exact ⟨.inl (Nat.le_trans h.exs.size ((h'.vars v hv).1.resolve_right id)), (h'.vars v hv).2⟩
    · exact h1.vars v hv
  · have a1 := (h'.vars x hx).1.resolve_right id
    have a2 := (h.vars y hy).2.lt
    omega
  · rcases List.mem_append.1 hd with hd | hd
    · exact h'.data d hd
    · exact h1.data d hd
  · rcases List.mem_append.1 hd with hd | hd
    · exact hfp d hd _
    · rcases List.mem_append.1 hv with hv | hv
      · intro hk
        have a1 := (h'.vars v hv).1.resolve_right id
        have a2 := d.lt _ _ (h.data d hd) hk
        omega
      · exact h.apart v hv d hd
def nought : IV := ⟨false, ⟨none, 0, 0, []⟩⟩
theorem li_n0 (H : Array Obj) : LI H 0 nought := ⟨⟨⟨rfl, Nat.le_refl _, .inl rfl⟩, fun x hx => (by cases hx)⟩, by simp [dig, nought], by decide⟩
theorem lk_zeros (H : Array Obj) (n K : Nat) : LsK n (List.replicate n nought) (fun _ => 0) K H := fun q hq => by
  have e1 : (List.replicate n nought).getD q default = nought := by simp [List.getD, List.getElem?_replicate, hq]
  rw [e1]; exact ⟨li_n0 H, Nat.zero_le _⟩
theorem lm_of {H : Array Obj} {b r c K : Nat} {l : List IV} {Z : Nat → Int} {F : Nat → Nat → Int} (hV : Vr H b 30 (l.flatMap ivc)) (hl : l.length = r * c) (hr : r ≤ 64) (hcc : c ≤ 64) (hk : LsK (r * c) l Z K H) (hZ : ∀ i j, i < r → j < c → Z (i * c + j) = F i j) :
    LM H ⟨r, c, some ⟨b, 0, none⟩, r * c, r * c, l⟩ r c F K :=
  ⟨⟨rfl, rfl, hr, hcc, rfl⟩, vr_sm (zs := []) (by omega) (fun _ _ => rfl) (by rw [List.append_nil]; exact hV) hl (Nat.le_refl _) hV.lt, fun i j hi hj => by rw [← hZ i j hi hj]; exact hk _ (place_lt hi hj)⟩
theorem outside_ok (w : World) (n : Int) (b : Bool) (h : decide (n < 0 ∨ 64 < n) = b) : Cl Tryz.prog 108 #[.int .i64 n] w (fun e w' => e = .returned (.bool b) ∧ Ext w w') := by
  subst h
  refine enter Tryz.func108 rfl rfl rfl ?_
  have hF := Fr.refl w
  repeat' (first | (refine TL.isOp ?_; first | (refine TL.isG ?_; first | refine TL.grun rfl rfl rfl ?_ | refine TL.gskip rfl rfl rfl rfl ?_) | (refine TL.isBin ?_; refine TL.cmpG rfl rfl rfl rfl (fun hc => ?_) (fun hc => ?_) <;> (try (first | (exfalso; omega) | exact absurd rfl hc))) | (apply TL.ev; (case hd => rfl); (case h => (first | exact ev_simple rfl)))) | (refine T.is ?_; first | refine T.seq ?_ | refine T.region ?_ | refine T.ret ?_) | (refine G.is ?_; first | refine G.next ?_) | refine TL.nil ?_)
  all_goals first | exact G.ret1 rfl rfl ⟨by rw [decide_eq_true (by omega)], hF.ext⟩ | exact G.ret1 rfl rfl ⟨by rw [decide_eq_false (by omega)], hF.ext⟩
def RetBk (w : World) (r c : Nat) (e : Ending) (w' : World) : Prop := ∃ b, e = .returned (.agg #[.int .i64 (r : Int), .int .i64 (c : Int), .slice (some ⟨b, 0, none⟩) (r * c) (r * c)]) ∧ Fr w w' [⟨b, 30, (List.replicate (r * c) nought).flatMap ivc⟩] []
theorem blank_ok (w : World) (r c : Nat) (hr : r ≤ 64) (hcc : c ≤ 64) : Cl Tryz.prog 71 #[.int .i64 (r : Int), .int .i64 (c : Int)] w (RetBk w r c) := by
  have hm := mul64 hr hcc
  refine enter Tryz.func71 rfl rfl rfl ?_
  have hF := Fr.refl w
  repeat' (first | (refine TL.isOp ?_; first | (apply TL.ev; (case hd => rfl); (case h => (first | exact ev_simple rfl | (apply Ev.isBin; first | exact ev_arN rfl rfl rfl (by omega)) | exact ev_buildX rfl rfl))) | (refine TL.storeAFr hF rfl rfl rfl rfl (by refine ⟨?_, ?_⟩; (focus (repeat (first | apply SetV.head | apply SetV.tail))); rfl) rfl ?_; clear hF; intro ws hF) | (refine TL.allocFr hF (d := 4) rfl rfl ?_; clear hF; intro w4 b4 hF) | (refine TL.makeFr hF ivc nought (d := 10) rfl rfl rfl (Nat.le_refl _) (by omega) rfl rfl rfl ?_; clear hF; intro w10 b10 hF)) | (refine T.is ?_; first | refine T.seq ?_ | refine T.region ?_ | refine T.ret ?_) | (refine G.is ?_; first | refine G.next ?_) | refine TL.nil ?_)
  exact G.retC1 rfl rfl (held_agg (hF.var (by repeat (first | exact InV.head | apply InV.tail))) rfl) ⟨b10, rfl, hF.weak (List.Sublist.cons_cons _ (List.nil_sublist _)) allN⟩
theorem Fr.blank {S : Nat → Prop} {w0 w w' : World} {L L' : List VB} {D : List DP} (h : Fr w0 w L D S) (h' : Fr w w' L' []) : Fr w0 w' (L' ++ L) D S := Fr.joinN h h' (fun d hd => (by cases hd))
def upZ (i : Nat) (Z : Nat → Int) (q : Nat) : Int := if q < i then Z q else 0
theorem upZ_succ (i : Nat) (Z : Nat → Int) : upZ (i + 1) Z i = Z i := if_pos (Nat.lt_succ_self i)
theorem upZ_ne {i p : Nat} {Z : Nat → Int} (h : p ≠ i) : upZ (i + 1) Z p = upZ i Z p := by unfold upZ; by_cases h1 : p < i <;> simp [h1, show p < i + 1 ↔ p < i by omega]
theorem upZ_end {n : Nat} {Z : Nat → Int} {q : Nat} (h : q < n) : upZ n Z q = Z q := if_pos h
set_option maxRecDepth 100000 in
theorem rmake_ok (w : World) (r c k K : Nat) (hr : r ≤ 64) (hcc : c ≤ 64) (A : Option Addr) (l : List IV) (hs : Sm 2 ivc w.heap w.heap.size A (r * c) k l) (hg : ∀ y ∈ l, GI w.heap y ∧ y.m.n ≤ K) (hK : K ≤ 1099511627776) :
    Cl Tryz.prog 78 #[.int .i64 (r : Int), .int .i64 (c : Int), .slice A (r * c) k] w (RetME w r c (fun i j => ival (l.getD (i * c + j) default)) K) := by
  have hm := mul64 hr hcc
  have hlen := hs.len
  refine enter Tryz.func78 rfl rfl rfl ?_
  have hF := Fr.refl w
  repeat' (first | (refine TL.isOp ?_; first | (refine TL.isG ?_; first | refine TL.grun rfl rfl rfl ?_) | (refine TL.isCall ?_; refine TL.call rfl rfl ?_; first | (refine (outside_ok _ (r : Int) false (decide_eq_false (by omega))).mono ?_; rintro _ wc ⟨rfl, hE⟩; replace hF := hF.exts hE; clear hE; refine Back.mk ?_) | (refine (outside_ok _ (c : Int) false (decide_eq_false (by omega))).mono ?_; rintro _ wc ⟨rfl, hE⟩; replace hF := hF.exts hE; clear hE; refine Back.mk ?_) | (refine (blank_ok _ r c hr hcc).mono ?_; rintro _ wb ⟨b, rfl, hB⟩; replace hF := Fr.blank hF hB; clear hB; refine Back.mk ?_)) | (refine TL.isBin ?_; refine TL.cmpG rfl rfl rfl rfl (fun hc => ?_) (fun hc => ?_) <;> (try (first | (exfalso; omega) | exact absurd rfl hc))) | (apply TL.ev; (case hd => rfl); (case h => (first | exact ev_simple rfl | (apply Ev.isBin; first | exact ev_arN rfl rfl rfl (by omega)) | exact ev_len rfl))) | (refine TL.storeAFr hF rfl rfl rfl rfl (by refine ⟨?_, ?_⟩; (focus (repeat (first | apply SetV.head | apply SetV.tail))); rfl) rfl ?_; clear hF; intro ws hF) | (refine TL.allocFr hF (d := 6) rfl rfl ?_; clear hF; intro w6 b6 hF) | (refine TL.allocFr hF (d := 8) rfl rfl ?_; clear hF; intro w8 b8 hF)) | (refine T.is ?_; first | refine T.seq ?_ | refine T.region ?_ | refine T.block ?_ | refine T.cond_f rfl ?_ | refine T.skip ?_) | (refine G.is ?_; first | refine G.next ?_) | refine TL.nil ?_)
  refine T.loop (α := Nat × List IV) (fun x => [(0, .int .i64 (r : Int)), (1, .int .i64 (c : Int)), (2, .slice A (r * c) k), (6, .pointer (some ⟨b6, 0, none⟩)), (8, .pointer (some ⟨b8, 0, none⟩)), (9, .int .i64 (x.1 : Int))])
    (fun x w' => x.1 ≤ r * c ∧ x.2.length = r * c ∧ Fr w w' [⟨b, 30, x.2.flatMap ivc⟩, ⟨b8, 27, [.int .i64 (r : Int), .int .i64 (c : Int), .slice (some ⟨b, 0, none⟩) (r * c) (r * c)]⟩, ⟨b6, 27, [.int .i64 0, .int .i64 0, .slice none 0 0]⟩] [dpLK (r * c) x.2 (upZ x.1 (fun q => ival (l.getD q default))) K])
    (fun x => r * c - x.1) (0, List.replicate (r * c) nought) (by repeat (first | exact Sub.nil _ | refine Sub.cons rfl ?_ | refine Sub.cons' rfl (int_congr (by omega)) ?_)) ⟨Nat.zero_le _, List.length_replicate .., Fr.addLK hF.swap ((lk_zeros _ _ _).congrN fun q _ => rfl)⟩ ?_
  clear hF
  rintro ⟨i, zl⟩ w2 ⟨hi, hzl, hF⟩
  dsimp only at hi hzl hF ⊢
  rcases Nat.lt_or_ge i (r * c) with hin | hin
  · have hy : l[i]? = some (l.getD i default) := by simp [List.getD, show i < l.length by omega]
    obtain ⟨gy, gn⟩ := hg _ (List.mem_of_getElem? hy)
    obtain ⟨y, ey⟩ : ∃ y, l.getD i default = y := ⟨_, rfl⟩
    rw [ey] at hy gy gn
    repeat' (first | (refine TL.isOp ?_; first | (refine TL.isCall ?_; refine TL.call rfl rfl ?_; first | (refine (r5least_t _ y (gy.ext hF.ext) (by omega)).mono ?_; rintro _ wl ⟨u, rfl, hLu, hE, hKu⟩; replace hF := Fr.addLI (hF.exts hE) hLu; clear hE hLu; refine Back.mk ?_)) | (refine TL.isBin ?_; refine TL.cmpG rfl rfl rfl rfl (fun hc => ?_) (fun hc => ?_) <;> (try (first | (exfalso; omega) | exact absurd rfl hc))) | (apply TL.ev; (case hd => rfl); (case h => (first | exact ev_simple rfl | (apply Ev.isBin; first | exact ev_arN rfl rfl rfl (by omega)) | exact ev_len rfl))) | (refine TL.storeAtFr hF (f := ivc) u rfl rfl rfl rfl (fun _ => rfl) (by rw [hzl]; exact hin) (ivc_noV zl) (by repeat (first | apply SetV.head | apply SetV.tail)) ?_; clear hF; intro ws hF)) | (refine TF.is ?_; first | refine TF.nil ?_ | refine TF.e rfl ?_ | (refine TF.pick rfl ?_; first | (apply TFo.ev; (case hd => rfl); (case h => (intro wh hF; first | exact ev_simple rfl | (apply Ev.isLoad; first | exact ev_loadFr hF rfl (by refine ⟨?_, ?_⟩; (focus (repeat (first | exact InV.head | apply InV.tail))); rfl) | exact ev_loadM rfl (hs.ext hF.ext) hy) | exact ev_fieldAddr rfl | exact ev_indexM rfl rfl hin (hs.ext hF.ext).some | exact ev_indexM rfl rfl hin (.inr rfl)))))) | (refine T.is ?_; first | refine T.seq ?_ | refine T.region ?_ | refine T.block ?_ | refine T.cond_t rfl ?_ | refine T.skip ?_ | (refine T.regionFr hF 9 9 (.s 0 (.s 1 (.s 2 (.s 3 (.s 4 (.s 5 (.s 6 (.e 7 (.s 8 (.e 9 .nil)))))))))) mixed (by kernel_rfl) ?_; clear hF; intro wr hF)) | (refine G.is ?_; first | refine G.next ?_ | refine G.blockN ?_ | refine G.only ?_ | refine G.treeEnd rfl ?_ | refine G.tree rfl (by first | exact hF | exact hF.weak (by repeat (first | exact List.Sublist.refl _ | apply List.Sublist.cons)) (by repeat (first | exact allR | apply allT)) | exact hF.weak (by repeat (first | exact List.Sublist.refl _ | apply List.Sublist.cons)) (by repeat (first | exact allN | refine allH (by repeat (first | exact memH | apply memT)) ?_))) ?_) | refine TL.nil ?_)
    have hk := (Fr.lk hF (i := r * c) (l := zl) (by repeat (first | exact memH | apply memT))).setAtN (Z' := upZ (i + 1) (fun q => ival (l.getD q default))) (u := u) (q := i) (by omega) (by rw [upZ_succ, ey]; exact Fr.li hF (by repeat (first | exact memH | apply memT))) (by omega) (fun p hp => upZ_ne hp)
    exact G.again (i + 1, zl.set i u) (by repeat (first | exact Sub.nil _ | refine Sub.cons rfl ?_ | refine Sub.cons' rfl (int_congr (by omega)) ?_)) ⟨by dsimp only; omega, by rw [List.length_set]; exact hzl, Fr.addLK (hF.weak (List.Sublist.refl _) allN) hk⟩ (by dsimp only; omega)
  · obtain rfl : i = r * c := by omega
    repeat' (first | (refine TL.isOp ?_; first | (refine TL.isBin ?_; refine TL.cmpG rfl rfl rfl rfl (fun hc => ?_) (fun hc => ?_) <;> (try (first | (exfalso; omega) | exact absurd rfl hc))) | (apply TL.ev; (case hd => rfl); (case h => (first | exact ev_simple rfl | (apply Ev.isLoad; first | exact ev_loadAFr hF rfl (by refine ⟨?_, ?_⟩; (focus (repeat (first | exact InV.head | apply InV.tail))); rfl)) | exact ev_len rfl))) | (refine TL.storeAFr hF rfl rfl rfl rfl (by refine ⟨?_, ?_⟩; (focus (repeat (first | apply SetV.head | apply SetV.tail))); rfl) rfl ?_; clear hF; intro ws hF)) | (refine T.is ?_; first | refine T.seq ?_ | refine T.region ?_ | refine T.cond_f rfl ?_ | refine T.exit ?_ | refine T.ret ?_) | (refine G.is ?_; first | refine G.next ?_ | refine G.blockE ?_ | refine G.thenE ?_) | refine TL.nil ?_)
    have hb := (hF.lo (b := b) (by repeat (first | exact InV.head | apply InV.tail))).resolve_right id
    exact G.retC2 rfl rfl rfl (held_agg (hF.var (by repeat (first | exact InV.head | apply InV.tail))) rfl) ⟨⟨r, c, some ⟨b, 0, none⟩, r * c, r * c, zl⟩, rfl, lm_of (hF.var (by repeat (first | exact InV.head | apply InV.tail))) hzl hr hcc (Fr.lk hF (by repeat (first | exact memH | apply memT))) (fun a q ha hq => upZ_end (place_lt ha hq)), hF.ext, .inr ⟨b, rfl, hb⟩⟩
theorem rchkE_ok (w : World) (x : MV) (r c : Nat) (hS : Sound x r c) : Cl Tryz.prog 73 #[.agg (mvc x).toArray] w (fun e w' => e = .returned (.int .i64 0) ∧ Ext w w') := by
  obtain ⟨xr, xc, A, n, k, l⟩ := x
  obtain ⟨h1, h2, h3, h4, h5⟩ := hS
  dsimp only at h1 h2 h5
  subst h1 h2 h5
  have hm := mul64 h3 h4
  refine enter Tryz.func73 rfl rfl rfl ?_
  have hF := Fr.refl w
  repeat' (first | (refine TL.isOp ?_; first | (refine TL.isG ?_; first | refine TL.grun rfl rfl rfl ?_) | (refine TL.isBin ?_; refine TL.cmpG rfl rfl rfl rfl (fun hc => ?_) (fun hc => ?_) <;> (try (first | (exfalso; omega) | exact absurd rfl hc))) | (apply TL.ev; (case hd => rfl); (case h => (first | exact ev_simple rfl | (apply Ev.isBin; first | exact ev_arN rfl rfl rfl (by omega)) | (apply Ev.isLoad; first | exact ev_loadFr hF rfl (by refine ⟨?_, ?_⟩; (focus (repeat (first | exact InV.head | apply InV.tail))); rfl)) | exact ev_len rfl | exact ev_fieldAddr rfl))) | (refine TL.boxAFr hF (d := 1) (cs := [.int .i64 (r : Int), .int .i64 (c : Int), .slice A (r * c) k]) rfl rfl ?_; clear hF; intro w1 b1 hF)) | (refine T.is ?_; first | refine T.seq ?_ | refine T.region ?_ | refine T.cond_f rfl ?_ | refine T.ret ?_ | refine T.skip ?_) | (refine G.is ?_; first | refine G.next ?_) | refine TL.nil ?_)
  exact G.ret1 rfl rfl ⟨rfl, hF.ext⟩
theorem rleastM_ok (w : World) (x : MV) (r c K : Nat) (gx : GM w.heap x r c K) (hK : K ≤ 1099511627776) : Cl Tryz.prog 79 #[.agg (mvc x).toArray] w (RetME w r c (ent x c) K) := by
  have hck := fun w => rchkE_ok w x r c gx.sh
  have hs0 := gx.sh
  obtain ⟨xr, xc, A1, n1, k1, l1⟩ := x
  obtain ⟨hr1, hc1, hr, hcc, hn1⟩ := hs0
  dsimp only at hr1 hc1 hn1
  subst hr1 hc1 hn1
  refine enter Tryz.func79 rfl rfl rfl ?_
  have hF := Fr.refl w
  repeat' (first | (refine TL.isOp ?_; first | (refine TL.isCall ?_; refine TL.call rfl rfl ?_; first | (refine (hck _).mono ?_; rintro _ wy ⟨rfl, hE⟩; replace hF := hF.exts hE; clear hE; refine Back.mk ?_) | (refine (rmake_ok _ r c k1 K hr hcc A1 l1 (gx.s.ext hF.ext).size (fun y hy => ⟨(gx.g y hy).1.ext hF.ext, (gx.g y hy).2⟩) hK).mono ?_; rintro _ wz ⟨⟨zr, zc, zA, zn, zk, zl⟩, rfl, hLz, hE, hf⟩; have hfz := hf.mono hF.ext.size; replace hF := Fr.addLM hF hE hLz hf; clear hE hf hLz; refine Back.mk ?_)) | (refine TL.isBin ?_; refine TL.cmpG rfl rfl rfl rfl (fun hc => ?_) (fun hc => ?_) <;> (try (first | (exfalso; omega) | exact absurd rfl hc))) | (apply TL.ev; (case hd => rfl); (case h => (first | exact ev_simple rfl | (apply Ev.isLoad; first | exact ev_loadFr hF rfl (by refine ⟨?_, ?_⟩; (focus (repeat (first | exact InV.head | apply InV.tail))); rfl) | exact ev_loadAFr hF rfl (by refine ⟨?_, ?_⟩; (focus (repeat (first | exact InV.head | apply InV.tail))); rfl)) | exact ev_fieldAddr rfl))) | (refine TL.storeAFr hF rfl rfl rfl rfl (by refine ⟨?_, ?_⟩; (focus (repeat (first | apply SetV.head | apply SetV.tail))); rfl) rfl ?_; clear hF; intro ws hF) | (refine TL.boxAFr hF (d := 1) (cs := [.int .i64 (r : Int), .int .i64 (c : Int), .slice A1 (r * c) k1]) rfl rfl ?_; clear hF; intro w1 b1 hF) | (refine TL.allocFr hF (d := 2) rfl rfl ?_; clear hF; intro w2 b2 hF)) | (refine T.is ?_; first | refine T.seq ?_ | refine T.region ?_ | refine T.cond_f rfl ?_ | refine T.ret ?_ | refine T.skip ?_) | (refine G.is ?_; first | refine G.next ?_) | refine TL.nil ?_)
  exact G.retC2 rfl rfl rfl (held_agg (hF.var (by repeat (first | exact InV.head | apply InV.tail))) rfl) ⟨⟨zr, zc, zA, zn, zk, zl⟩, rfl, Fr.lm hF (by repeat (first | exact memH | apply memT)), hF.ext, hfz⟩
theorem rzero_ok (w : World) (r c : Nat) (hr : r ≤ 64) (hcc : c ≤ 64) : Cl Tryz.prog 80 #[.int .i64 (r : Int), .int .i64 (c : Int)] w (fun e w' => ∃ b, e = .returned (.tuple #[.agg #[.int .i64 (r : Int), .int .i64 (c : Int), .slice (some ⟨b, 0, none⟩) (r * c) (r * c)], .int .i64 0]) ∧ Fr w w' [⟨b, 30, (List.replicate (r * c) nought).flatMap ivc⟩] []) := by
  refine enter Tryz.func80 rfl rfl rfl ?_
  have hF := Fr.refl w
  repeat' (first | (refine TL.isOp ?_; first | (refine TL.isG ?_; first | refine TL.grun rfl rfl rfl ?_) | (refine TL.isCall ?_; refine TL.call rfl rfl ?_; first | (refine (outside_ok _ (r : Int) false (decide_eq_false (by omega))).mono ?_; rintro _ wc ⟨rfl, hE⟩; replace hF := hF.exts hE; clear hE; refine Back.mk ?_) | (refine (outside_ok _ (c : Int) false (decide_eq_false (by omega))).mono ?_; rintro _ wc ⟨rfl, hE⟩; replace hF := hF.exts hE; clear hE; refine Back.mk ?_) | (refine (blank_ok _ r c hr hcc).mono ?_; rintro _ wb ⟨b, rfl, hB⟩; replace hF := Fr.blank hF hB; clear hB; refine Back.mk ?_)) | (apply TL.ev; (case hd => rfl); (case h => (first | exact ev_simple rfl))) | (refine TL.storeAFr hF rfl rfl rfl rfl (by refine ⟨?_, ?_⟩; (focus (repeat (first | apply SetV.head | apply SetV.tail))); rfl) rfl ?_; clear hF; intro ws hF) | (refine TL.allocFr hF (d := 4) rfl rfl ?_; clear hF; intro w4 b4 hF)) | (refine T.is ?_; first | refine T.seq ?_ | refine T.region ?_ | refine T.cond_f rfl ?_ | refine T.ret ?_ | refine T.skip ?_) | (refine G.is ?_; first | refine G.next ?_) | refine TL.nil ?_)
  exact G.retC2 rfl rfl rfl (held_agg (hF.var (by repeat (first | exact InV.head | apply InV.tail))) rfl) ⟨b, rfl, hF.weak (List.Sublist.cons_cons _ (List.nil_sublist _)) allN⟩
def isSd (z : Int) : Prop := 0 ≤ z ∧ z ≤ 64
theorem rzero_no (w : World) (x y : Int) (h : ¬ (isSd x ∧ isSd y)) : Cl Tryz.prog 80 #[.int .i64 x, .int .i64 y] w (RetMF w 3) := by
  unfold isSd at h
  by_cases hx : x < 0 ∨ 64 < x
  · refine enter Tryz.func80 rfl rfl rfl ?_
    have hF := Fr.refl w
    repeat' (first | (refine TL.isOp ?_; first | (refine TL.isG ?_; first | refine TL.gskip rfl rfl rfl rfl ?_) | (refine TL.isCall ?_; refine TL.call rfl rfl ?_; first | (refine (outside_ok _ x true (decide_eq_true hx)).mono ?_; rintro _ wc ⟨rfl, hE⟩; replace hF := hF.exts hE; clear hE; refine Back.mk ?_)) | (apply TL.ev; (case hd => rfl); (case h => (first | exact ev_simple rfl | exact ev_buildX rfl rfl))) | (refine TL.storeAFr hF rfl rfl rfl rfl (by refine ⟨?_, ?_⟩; (focus (repeat (first | apply SetV.head | apply SetV.tail))); rfl) rfl ?_; clear hF; intro ws hF) | (refine TL.allocFr hF (d := 4) rfl rfl ?_; clear hF; intro w4 b4 hF)) | (refine T.is ?_; first | refine T.seq ?_ | refine T.region ?_ | refine T.cond_t rfl ?_ | refine T.ret ?_) | (refine G.is ?_; first | refine G.next ?_ | refine G.thenR ?_) | refine TL.nil ?_)
    exact G.retC2 rfl rfl rfl (held_agg (hF.var (by repeat (first | exact InV.head | apply InV.tail))) rfl) ⟨rfl, hF.ext⟩
  · refine enter Tryz.func80 rfl rfl rfl ?_
    have hF := Fr.refl w
    repeat' (first | (refine TL.isOp ?_; first | (refine TL.isG ?_; first | refine TL.grun rfl rfl rfl ?_) | (refine TL.isCall ?_; refine TL.call rfl rfl ?_; first | (refine (outside_ok _ x false (decide_eq_false hx)).mono ?_; rintro _ wc ⟨rfl, hE⟩; replace hF := hF.exts hE; clear hE; refine Back.mk ?_) | (refine (outside_ok _ y true (decide_eq_true (by omega))).mono ?_; rintro _ wc ⟨rfl, hE⟩; replace hF := hF.exts hE; clear hE; refine Back.mk ?_)) | (apply TL.ev; (case hd => rfl); (case h => (first | exact ev_simple rfl | exact ev_buildX rfl rfl))) | (refine TL.storeAFr hF rfl rfl rfl rfl (by refine ⟨?_, ?_⟩; (focus (repeat (first | apply SetV.head | apply SetV.tail))); rfl) rfl ?_; clear hF; intro ws hF) | (refine TL.allocFr hF (d := 4) rfl rfl ?_; clear hF; intro w4 b4 hF)) | (refine T.is ?_; first | refine T.seq ?_ | refine T.region ?_ | refine T.cond_t rfl ?_ | refine T.ret ?_) | (refine G.is ?_; first | refine G.next ?_ | refine G.thenR ?_) | refine TL.nil ?_)
    exact G.retC2 rfl rfl rfl (held_agg (hF.var (by repeat (first | exact InV.head | apply InV.tail))) rfl) ⟨rfl, hF.ext⟩
theorem runit_no (w : World) (z : Int) (h : ¬ isSd z) : Cl Tryz.prog 76 #[.int .i64 z] w (RetMF w 3) := by
  refine enter Tryz.func76 rfl rfl rfl ?_
  have hF := Fr.refl w
  repeat' (first | (refine TL.isOp ?_; first | (refine TL.isCall ?_; refine TL.call rfl rfl ?_; first | (refine (rzero_no _ z z (fun h' => h h'.1)).mono ?_; rintro _ wc ⟨rfl, hE⟩; replace hF := hF.exts hE; clear hE; refine Back.mk ?_)) | (apply TL.ev; (case hd => rfl); (case h => (first | exact ev_simple rfl))) | (refine TL.storeAFr hF rfl rfl rfl rfl (by refine ⟨?_, ?_⟩; (focus (repeat (first | apply SetV.head | apply SetV.tail))); rfl) rfl ?_; clear hF; intro ws hF) | (refine TL.allocFr hF (d := 2) rfl rfl ?_; clear hF; intro w2 b2 hF) | (refine TL.allocFr hF (d := 4) rfl rfl ?_; clear hF; intro w4 b4 hF)) | (refine T.is ?_; first | refine T.seq ?_ | refine T.region ?_ | refine T.block ?_) | (refine G.is ?_; first | refine G.next ?_) | refine TL.nil ?_)
  refine T.loop (α := Nat) (fun _ => [(2, .pointer (some ⟨b2, 0, none⟩)), (4, .pointer (some ⟨b4, 0, none⟩)), (5, .int .i64 3), (6, .int .i64 0)])
    (fun _ w' => Fr w w' [⟨b4, 27, [.int .i64 0, .int .i64 0, .slice none 0 0]⟩, ⟨b2, 27, [.int .i64 0, .int .i64 0, .slice none 0 0]⟩] []) (fun x => 0) 0 (by repeat (first | exact Sub.nil _ | refine Sub.cons rfl ?_ | refine Sub.cons' rfl (int_congr (by omega)) ?_)) hF ?_
  clear hF
  rintro _ w2 hF
  repeat' (first | (refine TL.isOp ?_; first | (refine TL.isBin ?_; refine TL.cmpG rfl rfl rfl rfl (fun hc => ?_) (fun hc => ?_) <;> (try (first | (exfalso; omega) | exact absurd rfl hc))) | (apply TL.ev; (case hd => rfl); (case h => (first | exact ev_simple rfl | (apply Ev.isLoad; first | exact ev_loadFr hF rfl (by refine ⟨?_, ?_⟩; (focus (repeat (first | exact InV.head | apply InV.tail))); rfl) | exact ev_loadAFr hF rfl (by refine ⟨?_, ?_⟩; (focus (repeat (first | exact InV.head | apply InV.tail))); rfl)) | exact ev_fieldAddr rfl))) | (refine TL.storeAFr hF rfl rfl rfl rfl (by refine ⟨?_, ?_⟩; (focus (repeat (first | apply SetV.head | apply SetV.tail))); rfl) rfl ?_; clear hF; intro ws hF)) | (refine T.is ?_; first | refine T.seq ?_ | refine T.region ?_ | refine T.cond_f rfl ?_ | refine T.exit ?_ | refine T.ret ?_) | (refine G.is ?_; first | refine G.next ?_ | refine G.blockE ?_ | refine G.thenE ?_) | refine TL.nil ?_)
  exact G.retC2 rfl rfl rfl (held_agg (hF.var (by repeat (first | exact InV.head | apply InV.tail))) rfl) ⟨rfl, hF.ext⟩
def unZ (n i q : Nat) : Int := if q / n < i ∧ q / n = q % n then 1 else 0
theorem unZ_at {n i p : Nat} (hi : i < n) (hp : p < n * n) : unZ n (i + 1) p = if p = i * n + i then 1 else unZ n i p := by
  unfold unZ
  have h0 : p / n * n + p % n = p := Nat.div_add_mod' p n
  by_cases h : p = i * n + i
  · subst h
    have e1 : (i * n + i) / n = i := by rw [Nat.mul_comm, Nat.mul_add_div (by omega), Nat.div_eq_of_lt hi, Nat.add_zero]
    have e2 : (i * n + i) % n = i := by rw [Nat.mul_comm, Nat.mul_add_mod, Nat.mod_eq_of_lt hi]
    rw [e1, e2]; simp
  · rw [if_neg h]
    have : ¬ (p / n = i ∧ p / n = p % n) := fun ⟨h1, h2⟩ => h (by rw [h1] at h0 h2; rw [← h2] at h0; exact h0.symm)
    by_cases h1 : p / n = p % n
    · have h2 : p / n ≠ i := fun e => this ⟨e, h1⟩
      have : p / n < i + 1 ↔ p / n < i := by omega
      simp [this]
    · simp [h1]
set_option maxRecDepth 100000 in
theorem runit_ok (w : World) (n : Nat) (hn : n ≤ 64) : Cl Tryz.prog 76 #[.int .i64 (n : Int)] w (RetME w n n (fun i j => if i = j then 1 else 0) 1) := by
  have hm := mul64 hn hn
  refine enter Tryz.func76 rfl rfl rfl ?_
  have hF := Fr.refl w
  repeat' (first | (refine TL.isOp ?_; first | (refine TL.isCall ?_; refine TL.call rfl rfl ?_; first | (refine (rzero_ok _ n n hn hn).mono ?_; rintro _ wb ⟨b, rfl, hB⟩; replace hF := Fr.blank hF hB; clear hB; refine Back.mk ?_)) | (apply TL.ev; (case hd => rfl); (case h => (first | exact ev_simple rfl))) | (refine TL.storeAFr hF rfl rfl rfl rfl (by refine ⟨?_, ?_⟩; (focus (repeat (first | apply SetV.head | apply SetV.tail))); rfl) rfl ?_; clear hF; intro ws hF) | (refine TL.allocFr hF (d := 2) rfl rfl ?_; clear hF; intro w2 b2 hF) | (refine TL.allocFr hF (d := 4) rfl rfl ?_; clear hF; intro w4 b4 hF)) | (refine T.is ?_; first | refine T.seq ?_ | refine T.region ?_ | refine T.block ?_) | (refine G.is ?_; first | refine G.next ?_) | refine TL.nil ?_)
  refine T.loop (α := Nat × List IV) (fun x => [(0, .int .i64 (n : Int)), (2, .pointer (some ⟨b2, 0, none⟩)), (4, .pointer (some ⟨b4, 0, none⟩)), (5, .int .i64 0), (6, .int .i64 (x.1 : Int))])
    (fun x w' => x.1 ≤ n ∧ x.2.length = n * n ∧ Fr w w' [⟨b, 30, x.2.flatMap ivc⟩, ⟨b4, 27, [.int .i64 (n : Int), .int .i64 (n : Int), .slice (some ⟨b, 0, none⟩) (n * n) (n * n)]⟩, ⟨b2, 27, [.int .i64 0, .int .i64 0, .slice none 0 0]⟩] [dpLK (n * n) x.2 (unZ n x.1) 1])
    (fun x => n - x.1) (0, List.replicate (n * n) nought) (by repeat (first | exact Sub.nil _ | refine Sub.cons rfl ?_ | refine Sub.cons' rfl (int_congr (by omega)) ?_)) ⟨Nat.zero_le _, List.length_replicate .., Fr.addLK hF.swap ((lk_zeros _ _ _).congrN fun q _ => by simp [unZ])⟩ ?_
  clear hF
  rintro ⟨i, zl⟩ w2 ⟨hi, hzl, hF⟩
  dsimp only at hi hzl hF ⊢
  rcases Nat.lt_or_ge i n with hin | hin
  · have hpl := place_lt hin hin
    repeat' (first | (refine TL.isOp ?_; first | (refine TL.isBin ?_; refine TL.cmpG rfl rfl rfl rfl (fun hc => ?_) (fun hc => ?_) <;> (try (first | (exfalso; omega) | exact absurd rfl hc))) | (apply TL.ev; (case hd => rfl); (case h => (first | exact ev_simple rfl | (apply Ev.isBin; first | exact ev_arN rfl rfl rfl (by omega)) | (apply Ev.isLoad; first | exact ev_loadFr hF rfl (by refine ⟨?_, ?_⟩; (focus (repeat (first | exact InV.head | apply InV.tail))); rfl)) | exact ev_fieldAddr rfl | exact ev_buildX rfl rfl | exact ev_indexM rfl rfl hpl (.inr rfl)))) | (refine TL.storeAtFr hF (f := ivc) (i := i * n + i) ⟨false, ⟨some ⟨bn, 0, none⟩, 1, 1, [1]⟩⟩ rfl rfl rfl rfl (fun _ => rfl) (by rw [hzl]; exact hpl) (ivc_noV zl) (by repeat (first | apply SetV.head | apply SetV.tail)) ?_; clear hF; intro ws hF) | (refine TL.build1U rfl rfl (fun wn bn ebn hBn hEn hzn => ?_); replace hF := Fr.addSl (hF.exts hEn) (hBn.slN (n := 1) (c := 1) rfl (Nat.le_refl _) hBn.lt); clear ebn hBn hEn hzn)) | (refine T.is ?_; first | refine T.seq ?_ | refine T.region ?_ | refine T.block ?_ | refine T.cond_t rfl ?_ | refine T.skip ?_) | (refine G.is ?_; first | refine G.next ?_ | refine G.blockN ?_) | refine TL.nil ?_)
    have hsl := Fr.sl hF (A := some ⟨bn, 0, none⟩) (n := 1) (c := 1) (l := [1]) (by repeat (first | exact memH | apply memT))
    have hk : LsK (n * n) (zl.set (i * n + i) ⟨false, ⟨some ⟨bn, 0, none⟩, 1, 1, [1]⟩⟩) (unZ n (i + 1)) 1 ws.heap := by
      refine ((Fr.lk hF (i := n * n) (l := zl) (by repeat (first | exact memH | apply memT))).setAtN (Z' := fun p => if p = i * n + i then 1 else unZ n i p) (q := i * n + i) (by omega) ?_ (Nat.le_refl _) (fun p hp => if_neg hp)).congrN fun q hq => (unZ_at hin hq).symm
      simp only [if_true]
      exact ⟨⟨hsl, U64.one (by omega)⟩, by rw [show (1 : Int).natAbs = 1 from rfl, dig_small (by omega) (by omega)], rfl⟩
    exact G.again (i + 1, zl.set (i * n + i) ⟨false, ⟨some ⟨bn, 0, none⟩, 1, 1, [1]⟩⟩) (by repeat (first | exact Sub.nil _ | refine Sub.cons rfl ?_ | refine Sub.cons' rfl (int_congr (by omega)) ?_)) ⟨by dsimp only; omega, by rw [List.length_set]; exact hzl, Fr.addLK (hF.weak (List.Sublist.refl _) allN) hk⟩ (by dsimp only; omega)
  · obtain rfl : i = n := by omega
    repeat' (first | (refine TL.isOp ?_; first | (refine TL.isBin ?_; refine TL.cmpG rfl rfl rfl rfl (fun hc => ?_) (fun hc => ?_) <;> (try (first | (exfalso; omega) | exact absurd rfl hc))) | (apply TL.ev; (case hd => rfl); (case h => (first | exact ev_simple rfl | (apply Ev.isLoad; first | exact ev_loadFr hF rfl (by refine ⟨?_, ?_⟩; (focus (repeat (first | exact InV.head | apply InV.tail))); rfl) | exact ev_loadAFr hF rfl (by refine ⟨?_, ?_⟩; (focus (repeat (first | exact InV.head | apply InV.tail))); rfl)) | exact ev_fieldAddr rfl))) | (refine TL.storeAFr hF rfl rfl rfl rfl (by refine ⟨?_, ?_⟩; (focus (repeat (first | apply SetV.head | apply SetV.tail))); rfl) rfl ?_; clear hF; intro ws hF)) | (refine T.is ?_; first | refine T.seq ?_ | refine T.region ?_ | refine T.cond_f rfl ?_ | refine T.exit ?_ | refine T.ret ?_) | (refine G.is ?_; first | refine G.next ?_ | refine G.blockE ?_ | refine G.thenE ?_) | refine TL.nil ?_)
    have hb := (hF.lo (b := b) (by repeat (first | exact InV.head | apply InV.tail))).resolve_right id
    refine G.retC2 rfl rfl rfl (held_agg (hF.var (by repeat (first | exact InV.head | apply InV.tail))) rfl) ⟨⟨i, i, some ⟨b, 0, none⟩, i * i, i * i, zl⟩, rfl, lm_of (hF.var (by repeat (first | exact InV.head | apply InV.tail))) hzl hn hn (Fr.lk hF (by repeat (first | exact memH | apply memT))) (fun a q ha hq => ?_), hF.ext, .inr ⟨b, rfl, hb⟩⟩
    unfold unZ
    have e1 : (a * i + q) / i = a := by rw [Nat.mul_comm, Nat.mul_add_div (by omega), Nat.div_eq_of_lt hq, Nat.add_zero]
    have e2 : (a * i + q) % i = q := by rw [Nat.mul_comm, Nat.mul_add_mod, Nat.mod_eq_of_lt hq]
    rw [e1, e2]
    simp [ha]
end Go.Proofs.YtlhmehikajidhaaGreat
namespace Go.Proofs.YtlhmehikajidhaaGreat
open Go Go.Eng Go.Proofs Go.NatM Go.RowKit
theorem rchkE_bad (w : World) (x : MV) (h : ∀ r c, ¬ Sound x r c) : Cl Tryz.prog 73 #[.agg (mvc x).toArray] w (fun e w' => e = .returned (.int .i64 1) ∧ Ext w w') := by
  obtain ⟨xr, xc, A, n, k, l⟩ := x
  by_cases hin : (0 ≤ xr ∧ xr ≤ 64) ∧ (0 ≤ xc ∧ xc ≤ 64)
  · obtain ⟨r, rfl⟩ := Int.eq_ofNat_of_zero_le hin.1.1
    obtain ⟨c, rfl⟩ := Int.eq_ofNat_of_zero_le hin.2.1
    have hr : r ≤ 64 := by omega
    have hc : c ≤ 64 := by omega
    have hm := mul64 hr hc
    have hn : n ≠ r * c := fun e => h r c ⟨rfl, rfl, hr, hc, e⟩
    generalize hp : r * c = p at *
    refine enter Tryz.func73 rfl rfl rfl ?_
    repeat' (first | refine TL.ev (ev_simple rfl) rfl ?_ | refine TL.grun rfl rfl rfl ?_ | refine TL.ev (ev_len rfl) rfl ?_ | (refine TL.cmpG rfl rfl rfl rfl (fun hc => ?_) (fun hc => ?_) <;> try first | (exfalso; omega) | exact absurd rfl hc) | refine TL.ev (ev_arN rfl rfl rfl (by omega)) rfl ?_ | (refine TL.boxA (cs := [.int .i64 (r : Int), .int .i64 (c : Int), .slice A n k]) rfl rfl (fun wb bb ebb hVb hEb hzb => ?_)) | (refine TL.ev (ev_fieldAddr rfl) rfl ?_) | (refine TL.ev (ev_loadVX rfl (by refine ⟨?_, ?_⟩; (focus (repeat (first | assumption | (apply Vr.ext; assumption) | (apply Vr.updX; assumption; rotate_left; omega)))); rfl)) rfl ?_) | refine T.seq ?_ | refine T.region ?_ | refine TL.nil ?_ | refine T.cond_t rfl ?_ | refine T.ret ?_ | refine G.next ?_ | refine G.thenR ?_)
    all_goals exact G.ret1 rfl rfl ⟨rfl, hEb⟩
  · refine enter Tryz.func73 rfl rfl rfl ?_
    repeat' (first | refine TL.ev (ev_simple rfl) rfl ?_ | refine TL.grun rfl rfl rfl ?_ | refine TL.gskip rfl rfl rfl rfl ?_ | (refine TL.cmpG rfl rfl rfl rfl (fun hc => ?_) (fun hc => ?_) <;> try first | (exfalso; omega) | exact absurd rfl hc) | (refine TL.boxA (cs := [.int .i64 xr, .int .i64 xc, .slice A n k]) rfl rfl (fun wb bb ebb hVb hEb hzb => ?_)) | (refine TL.ev (ev_fieldAddr rfl) rfl ?_) | (refine TL.ev (ev_loadVX rfl (by refine ⟨?_, ?_⟩; (focus (repeat (first | assumption | (apply Vr.ext; assumption) | (apply Vr.updX; assumption; rotate_left; omega)))); rfl)) rfl ?_) | refine T.seq ?_ | refine T.region ?_ | refine TL.nil ?_ | refine T.cond_t rfl ?_ | refine T.ret ?_ | refine G.next ?_ | refine G.thenR ?_)
    all_goals exact G.ret1 rfl rfl ⟨rfl, hEb⟩
theorem divmod2 {i j c : Nat} (hj : j < c) : (i * c + j) / c = i ∧ (i * c + j) % c = j :=
  ⟨by rw [Nat.mul_comm, Nat.mul_add_div (by omega), Nat.div_eq_of_lt hj, Nat.add_zero], by rw [Nat.mul_comm, Nat.mul_add_mod, Nat.mod_eq_of_lt hj]⟩
theorem GM.load {H : Array Obj} {x : MV} {r c K : Nat} (h : GM H x r c K) {i j : Nat} (hi : i < r) (hj : j < c) : ∃ y : IV, x.l[i * c + j]? = some y ∧ GI H y ∧ y.m.n ≤ K ∧ ival y = ent x c i j := by
  have hlen := h.s.len
  rw [h.sh.n] at hlen
  have hp := place_lt hi hj
  have e : x.l[i * c + j]? = some (x.l.getD (i * c + j) default) := by simp [List.getD, show i * c + j < x.l.length by omega]
  have hg := h.g _ (List.mem_of_getElem? e)
  exact ⟨_, e, hg.1, hg.2, rfl⟩
def tuZ (r : Nat) (F : Nat → Nat → Int) (i j p : Nat) : Int := if p % r < i ∨ (p % r = i ∧ p / r < j) then F (p % r) (p / r) else 0
theorem tuZ_at {r i j : Nat} {F : Nat → Nat → Int} (hi : i < r) : tuZ r F i (j + 1) (j * r + i) = F i j := by
  unfold tuZ
  rw [(divmod2 hi).1, (divmod2 hi).2, if_pos (.inr ⟨rfl, Nat.lt_succ_self j⟩)]
theorem tuZ_ne {r i j p : Nat} {F : Nat → Nat → Int} (h : p ≠ j * r + i) : tuZ r F i (j + 1) p = tuZ r F i j p := by
  unfold tuZ
  have h0 : p / r * r + p % r = p := Nat.div_add_mod' p r
  have : ¬ (p % r = i ∧ p / r = j) := fun ⟨h1, h2⟩ => h (by rw [h1, h2] at h0; exact h0.symm)
  have e : (p % r < i ∨ (p % r = i ∧ p / r < j + 1)) ↔ (p % r < i ∨ (p % r = i ∧ p / r < j)) := by omega
  simp only [e]
theorem tuZ_row {r c i p : Nat} {F : Nat → Nat → Int} (hp : p < c * r) : tuZ r F i c p = tuZ r F (i + 1) 0 p := by
  unfold tuZ
  have h1 : p / r < c := Nat.div_lt_of_lt_mul (by rw [Nat.mul_comm]; exact hp)
  generalize p / r = a at *
  generalize p % r = b at *
  have e : (b < i ∨ (b = i ∧ a < c)) ↔ (b < i + 1 ∨ (b = i + 1 ∧ a < 0)) := by omega
  simp only [e]
set_option maxRecDepth 100000 in
theorem rturn_ok (w : World) (x : MV) (r c K : Nat) (gx : GM w.heap x r c K) (hK : K ≤ 1099511627776) : Cl Tryz.prog 35 #[.agg (mvc x).toArray] w (RetME w c r (fun i j => ent x c j i) K) := by
  have hck := fun w => rchkE_ok w x r c gx.sh
  have hld := fun i j (hi : i < r) (hj : j < c) => gx.load hi hj
  obtain ⟨F, hFe⟩ : ∃ F, F = ent x c := ⟨_, rfl⟩
  rw [← hFe]
  simp only [← hFe] at hld
  clear hFe
  have hs0 := gx.sh
  have hs := gx.s
  clear gx
  obtain ⟨xr, xc, A, n, k, l⟩ := x
  obtain ⟨hr1, hc1, hr, hcc, hn1⟩ := hs0
  dsimp only at hr1 hc1 hn1 hs hld
  subst hr1 hc1 hn1
  have hm := mul64 hr hcc
  have hm2 := mul64 hcc hr
  refine enter Tryz.func35 rfl rfl rfl ?_
  have hF := Fr.refl w
  repeat' (first | (refine TL.isOp ?_; first | (refine TL.isCall ?_; refine TL.call rfl rfl ?_; first | (refine (hck _).mono ?_; rintro _ wy ⟨rfl, hE⟩; replace hF := hF.exts hE; clear hE; refine Back.mk ?_) | (refine (blank_ok _ c r hcc hr).mono ?_; rintro _ wb ⟨b, rfl, hB⟩; replace hF := Fr.blank hF hB; clear hB; refine Back.mk ?_)) | (refine TL.isBin ?_; refine TL.cmpG rfl rfl rfl rfl (fun hc => ?_) (fun hc => ?_) <;> (try (first | (exfalso; omega) | exact absurd rfl hc))) | (apply TL.ev; (case hd => rfl); (case h => (first | exact ev_simple rfl | (apply Ev.isLoad; first | exact ev_loadFr hF rfl (by refine ⟨?_, ?_⟩; (focus (repeat (first | exact InV.head | apply InV.tail))); rfl) | exact ev_loadAFr hF rfl (by refine ⟨?_, ?_⟩; (focus (repeat (first | exact InV.head | apply InV.tail))); rfl)) | exact ev_fieldAddr rfl))) | (refine TL.storeAFr hF rfl rfl rfl rfl (by refine ⟨?_, ?_⟩; (focus (repeat (first | apply SetV.head | apply SetV.tail))); rfl) rfl ?_; clear hF; intro ws hF) | (refine TL.boxAFr hF (d := 1) (cs := [.int .i64 (r : Int), .int .i64 (c : Int), .slice A (r * c) k]) rfl rfl ?_; clear hF; intro w1 b1 hF) | (refine TL.allocFr hF (d := 2) rfl rfl ?_; clear hF; intro w2 b2 hF) | (refine TL.allocFr hF (d := 5) rfl rfl ?_; clear hF; intro w5 b5 hF)) | (refine T.is ?_; first | refine T.seq ?_ | refine T.region ?_ | refine T.block ?_ | refine T.cond_f rfl ?_ | refine T.skip ?_) | (refine G.is ?_; first | refine G.next ?_) | refine TL.nil ?_)
  refine T.loop (α := Nat × List IV) (fun x => [(1, .pointer (some ⟨b1, 0, none⟩)), (2, .pointer (some ⟨b2, 0, none⟩)), (5, .pointer (some ⟨b5, 0, none⟩)), (6, .int .i64 (x.1 : Int))])
    (fun x w' => x.1 ≤ r ∧ x.2.length = c * r ∧ Fr w w' [⟨b, 30, x.2.flatMap ivc⟩, ⟨b5, 27, [.int .i64 (c : Int), .int .i64 (r : Int), .slice (some ⟨b, 0, none⟩) (c * r) (c * r)]⟩, ⟨b2, 27, [.int .i64 0, .int .i64 0, .slice none 0 0]⟩, ⟨b1, 27, [.int .i64 (r : Int), .int .i64 (c : Int), .slice A (r * c) k]⟩] [dpLK (c * r) x.2 (tuZ r F x.1 0) K])
    (fun x => r - x.1) (0, List.replicate (c * r) nought) (by repeat (first | exact Sub.nil _ | refine Sub.cons rfl ?_ | refine Sub.cons' rfl (int_congr (by omega)) ?_)) ⟨Nat.zero_le _, List.length_replicate .., Fr.addLK hF.swap ((lk_zeros _ _ _).congrN fun q _ => by simp [tuZ])⟩ ?_
  clear hF
  rintro ⟨i, zl⟩ w2 ⟨hi, hzl, hF⟩
  dsimp only at hi hzl hF ⊢
  rcases Nat.lt_or_ge i r with hin | hin
  · repeat' (first | (refine TL.isOp ?_; first | (refine TL.isBin ?_; refine TL.cmpG rfl rfl rfl rfl (fun hc => ?_) (fun hc => ?_) <;> (try (first | (exfalso; omega) | exact absurd rfl hc))) | (apply TL.ev; (case hd => rfl); (case h => (first | exact ev_simple rfl | (apply Ev.isLoad; first | exact ev_loadFr hF rfl (by refine ⟨?_, ?_⟩; (focus (repeat (first | exact InV.head | apply InV.tail))); rfl)) | exact ev_fieldAddr rfl)))) | (refine T.is ?_; first | refine T.seq ?_ | refine T.region ?_ | refine T.block ?_ | refine T.cond_t rfl ?_ | refine T.skip ?_) | (refine G.is ?_; first | refine G.next ?_) | refine TL.nil ?_)
    refine T.loop (α := Nat × List IV) (fun x => [(1, .pointer (some ⟨b1, 0, none⟩)), (2, .pointer (some ⟨b2, 0, none⟩)), (5, .pointer (some ⟨b5, 0, none⟩)), (6, .int .i64 (i : Int)), (7, .int .i64 (x.1 : Int))])
      (fun x w' => x.1 ≤ c ∧ x.2.length = c * r ∧ Fr w w' [⟨b, 30, x.2.flatMap ivc⟩, ⟨b5, 27, [.int .i64 (c : Int), .int .i64 (r : Int), .slice (some ⟨b, 0, none⟩) (c * r) (c * r)]⟩, ⟨b2, 27, [.int .i64 0, .int .i64 0, .slice none 0 0]⟩, ⟨b1, 27, [.int .i64 (r : Int), .int .i64 (c : Int), .slice A (r * c) k]⟩] [dpLK (c * r) x.2 (tuZ r F i x.1) K])
      (fun x => c - x.1) (0, zl) (by repeat (first | exact Sub.nil _ | refine Sub.cons rfl ?_ | refine Sub.cons' rfl (int_congr (by omega)) ?_)) ⟨Nat.zero_le _, hzl, hF⟩ ?_
    clear hF hzl
    clear zl
    rintro ⟨j, zl⟩ w3 ⟨hj, hzl, hF⟩
    dsimp only at hj hzl hF ⊢
    rcases Nat.lt_or_ge j c with hjn | hjn
    · have hpl := place_lt (i := j) (j := i) (r := c) (c := r) hjn hin
      have hpf := place_lt (i := i) (j := j) (r := r) (c := c) hin hjn
      obtain ⟨y, hy, gy, hyn, hyv⟩ := hld i j hin hjn
      repeat' (first | (refine TL.isOp ?_; first | (refine TL.isCall ?_; refine TL.call rfl rfl ?_; first | (refine (r5least_t _ y (gy.ext hF.ext) (by omega)).mono ?_; rintro _ wl ⟨u, rfl, hLu, hE, hKu⟩; replace hF := Fr.addLI (hF.exts hE) hLu; clear hE hLu; refine Back.mk ?_)) | (refine TL.isBin ?_; refine TL.cmpG rfl rfl rfl rfl (fun hc => ?_) (fun hc => ?_) <;> (try (first | (exfalso; omega) | exact absurd rfl hc))) | (apply TL.ev; (case hd => rfl); (case h => (first | exact ev_simple rfl | (apply Ev.isBin; first | exact ev_arN rfl rfl rfl (by omega)) | (apply Ev.isLoad; first | exact ev_loadFr hF rfl (by refine ⟨?_, ?_⟩; (focus (repeat (first | exact InV.head | apply InV.tail))); rfl)) | exact ev_fieldAddr rfl))) | (refine TL.storeAtFr hF (f := ivc) (i := j * r + i) u rfl rfl rfl rfl (fun _ => rfl) (by rw [hzl]; exact hpl) (ivc_noV zl) (by repeat (first | apply SetV.head | apply SetV.tail)) ?_; clear hF; intro ws hF)) | (refine TF.is ?_; first | refine TF.nil ?_ | refine TF.e rfl ?_ | (refine TF.pick rfl ?_; first | (apply TFo.ev; (case hd => rfl); (case h => (intro wh hF; first | exact ev_simple rfl | (apply Ev.isBin; first | exact ev_arN rfl rfl rfl (by omega)) | (apply Ev.isLoad; first | exact ev_loadFr hF rfl (by refine ⟨?_, ?_⟩; (focus (repeat (first | exact InV.head | apply InV.tail))); rfl) | exact ev_loadM rfl (hs.ext hF.ext) hy) | exact ev_fieldAddr rfl | exact ev_indexM rfl rfl hpf (hs.ext hF.ext).some | exact ev_indexM rfl rfl hpl (.inr rfl)))))) | (refine T.is ?_; first | refine T.seq ?_ | refine T.region ?_ | refine T.block ?_ | refine T.cond_t rfl ?_ | refine T.skip ?_ | (refine T.regionFr hF 11 20 (.s 0 (.s 1 (.s 2 (.s 3 (.s 4 (.s 5 (.s 6 (.s 7 (.s 8 (.s 9 (.s 10 (.s 11 (.s 12 (.s 13 (.s 14 (.s 15 (.s 16 (.s 17 (.e 18 (.s 19 (.e 20 .nil))))))))))))))))))))) mixed (by kernel_rfl) ?_; clear hF; intro wr hF)) | (refine G.is ?_; first | refine G.next ?_ | refine G.blockN ?_ | refine G.only ?_ | refine G.treeEnd rfl ?_ | refine G.tree rfl (by first | exact hF | exact hF.weak (by repeat (first | exact List.Sublist.refl _ | apply List.Sublist.cons)) (by repeat (first | exact allR | apply allT)) | exact hF.weak (by repeat (first | exact List.Sublist.refl _ | apply List.Sublist.cons)) (by repeat (first | exact allN | refine allH (by repeat (first | exact memH | apply memT)) ?_))) ?_) | refine TL.nil ?_)
      have hk := (Fr.lk hF (i := c * r) (l := zl) (by repeat (first | exact memH | apply memT))).setAtN (Z' := tuZ r F i (j + 1)) (u := u) (q := j * r + i) (by omega) (by rw [tuZ_at hin, ← hyv]; exact Fr.li hF (by repeat (first | exact memH | apply memT))) (by omega) (fun p hp => tuZ_ne hp)
      exact G.again (j + 1, zl.set (j * r + i) u) (by repeat (first | exact Sub.nil _ | refine Sub.cons rfl ?_ | refine Sub.cons' rfl (int_congr (by omega)) ?_)) ⟨by dsimp only; omega, by rw [List.length_set]; exact hzl, Fr.addLK (hF.weak (List.Sublist.refl _) allN) hk⟩ (by dsimp only; omega)
    · obtain rfl : j = c := by omega
      repeat' (first | (refine TL.isOp ?_; first | (refine TL.isBin ?_; refine TL.cmpG rfl rfl rfl rfl (fun hc => ?_) (fun hc => ?_) <;> (try (first | (exfalso; omega) | exact absurd rfl hc))) | (apply TL.ev; (case hd => rfl); (case h => (first | exact ev_simple rfl | (apply Ev.isBin; first | exact ev_arN rfl rfl rfl (by omega)) | (apply Ev.isLoad; first | exact ev_loadFr hF rfl (by refine ⟨?_, ?_⟩; (focus (repeat (first | exact InV.head | apply InV.tail))); rfl)) | exact ev_fieldAddr rfl)))) | (refine T.is ?_; first | refine T.seq ?_ | refine T.region ?_ | refine T.cond_f rfl ?_ | refine T.exit ?_) | (refine G.is ?_; first | refine G.next ?_ | refine G.blockN ?_ | refine G.blockE ?_ | refine G.thenE ?_) | refine TL.nil ?_)
      exact G.again (i + 1, zl) (by repeat (first | exact Sub.nil _ | refine Sub.cons rfl ?_ | refine Sub.cons' rfl (int_congr (by omega)) ?_)) ⟨by dsimp only; omega, hzl, Fr.addLK (hF.weak (List.Sublist.refl _) allN) ((Fr.lk hF (i := j * r) (l := zl) (by repeat (first | exact memH | apply memT))).congrN fun p hp => tuZ_row hp)⟩ (by dsimp only; omega)
  · obtain rfl : i = r := by omega
    repeat' (first | (refine TL.isOp ?_; first | (refine TL.isBin ?_; refine TL.cmpG rfl rfl rfl rfl (fun hc => ?_) (fun hc => ?_) <;> (try (first | (exfalso; omega) | exact absurd rfl hc))) | (apply TL.ev; (case hd => rfl); (case h => (first | exact ev_simple rfl | (apply Ev.isLoad; first | exact ev_loadFr hF rfl (by refine ⟨?_, ?_⟩; (focus (repeat (first | exact InV.head | apply InV.tail))); rfl) | exact ev_loadAFr hF rfl (by refine ⟨?_, ?_⟩; (focus (repeat (first | exact InV.head | apply InV.tail))); rfl)) | exact ev_fieldAddr rfl))) | (refine TL.storeAFr hF rfl rfl rfl rfl (by refine ⟨?_, ?_⟩; (focus (repeat (first | apply SetV.head | apply SetV.tail))); rfl) rfl ?_; clear hF; intro ws hF)) | (refine T.is ?_; first | refine T.seq ?_ | refine T.region ?_ | refine T.cond_f rfl ?_ | refine T.exit ?_ | refine T.ret ?_) | (refine G.is ?_; first | refine G.next ?_ | refine G.blockE ?_ | refine G.thenE ?_) | refine TL.nil ?_)
    have hb := (hF.lo (b := b) (by repeat (first | exact InV.head | apply InV.tail))).resolve_right id
    refine G.retC2 rfl rfl rfl (held_agg (hF.var (by repeat (first | exact InV.head | apply InV.tail))) rfl) ⟨⟨c, i, some ⟨b, 0, none⟩, c * i, c * i, zl⟩, rfl, lm_of (hF.var (by repeat (first | exact InV.head | apply InV.tail))) hzl hcc hr (Fr.lk hF (by repeat (first | exact memH | apply memT))) (fun a q ha hq => ?_), hF.ext, .inr ⟨b, rfl, hb⟩⟩
    unfold tuZ
    rw [(divmod2 hq).1, (divmod2 hq).2, if_pos (.inl hq)]
theorem rleastM_bad (w : World) (x : MV) (h : ∀ r c, ¬ Sound x r c) : Cl Tryz.prog 79 #[.agg (mvc x).toArray] w (RetMF w 1) := by
  have hck := fun w => rchkE_bad w x h
  clear h
  obtain ⟨xr, xc, A, n, k, l⟩ := x
  refine enter Tryz.func79 rfl rfl rfl ?_
  have hF := Fr.refl w
  repeat' (first | (refine TL.isOp ?_; first | (refine TL.isCall ?_; refine TL.call rfl rfl ?_; first | (refine (hck _).mono ?_; rintro _ wy ⟨rfl, hE⟩; replace hF := hF.exts hE; clear hE; refine Back.mk ?_)) | (refine TL.isBin ?_; refine TL.cmpG rfl rfl rfl rfl (fun hc => ?_) (fun hc => ?_) <;> (try (first | (exfalso; omega) | exact absurd rfl hc))) | (apply TL.ev; (case hd => rfl); (case h => (first | exact ev_simple rfl | (apply Ev.isLoad; first | exact ev_loadAFr hF rfl (by refine ⟨?_, ?_⟩; (focus (repeat (first | exact InV.head | apply InV.tail))); rfl)) | exact ev_buildX rfl rfl))) | (refine TL.storeAFr hF rfl rfl rfl rfl (by refine ⟨?_, ?_⟩; (focus (repeat (first | apply SetV.head | apply SetV.tail))); rfl) rfl ?_; clear hF; intro ws hF) | (refine TL.boxAFr hF (d := 1) (cs := [.int .i64 xr, .int .i64 xc, .slice A n k]) rfl rfl ?_; clear hF; intro w1 b1 hF) | (refine TL.allocFr hF (d := 2) rfl rfl ?_; clear hF; intro w2 b2 hF)) | (refine T.is ?_; first | refine T.seq ?_ | refine T.region ?_ | refine T.cond_t rfl ?_ | refine T.ret ?_) | (refine G.is ?_; first | refine G.next ?_ | refine G.thenR ?_) | refine TL.nil ?_)
  exact G.retC2 rfl rfl rfl (held_agg (hF.var (by repeat (first | exact InV.head | apply InV.tail))) rfl) ⟨rfl, hF.ext⟩
theorem rturn_bad (w : World) (x : MV) (h : ∀ r c, ¬ Sound x r c) : Cl Tryz.prog 35 #[.agg (mvc x).toArray] w (RetMF w 1) := by
  have hck := fun w => rchkE_bad w x h
  clear h
  obtain ⟨xr, xc, A, n, k, l⟩ := x
  refine enter Tryz.func35 rfl rfl rfl ?_
  have hF := Fr.refl w
  repeat' (first | (refine TL.isOp ?_; first | (refine TL.isCall ?_; refine TL.call rfl rfl ?_; first | (refine (hck _).mono ?_; rintro _ wy ⟨rfl, hE⟩; replace hF := hF.exts hE; clear hE; refine Back.mk ?_)) | (refine TL.isBin ?_; refine TL.cmpG rfl rfl rfl rfl (fun hc => ?_) (fun hc => ?_) <;> (try (first | (exfalso; omega) | exact absurd rfl hc))) | (apply TL.ev; (case hd => rfl); (case h => (first | exact ev_simple rfl | (apply Ev.isLoad; first | exact ev_loadAFr hF rfl (by refine ⟨?_, ?_⟩; (focus (repeat (first | exact InV.head | apply InV.tail))); rfl)) | exact ev_buildX rfl rfl))) | (refine TL.storeAFr hF rfl rfl rfl rfl (by refine ⟨?_, ?_⟩; (focus (repeat (first | apply SetV.head | apply SetV.tail))); rfl) rfl ?_; clear hF; intro ws hF) | (refine TL.boxAFr hF (d := 1) (cs := [.int .i64 xr, .int .i64 xc, .slice A n k]) rfl rfl ?_; clear hF; intro w1 b1 hF) | (refine TL.allocFr hF (d := 2) rfl rfl ?_; clear hF; intro w2 b2 hF)) | (refine T.is ?_; first | refine T.seq ?_ | refine T.region ?_ | refine T.cond_t rfl ?_ | refine T.ret ?_) | (refine G.is ?_; first | refine G.next ?_ | refine G.thenR ?_) | refine TL.nil ?_)
  exact G.retC2 rfl rfl rfl (held_agg (hF.var (by repeat (first | exact InV.head | apply InV.tail))) rfl) ⟨rfl, hF.ext⟩
end Go.Proofs.YtlhmehikajidhaaGreat
