/- Layer 9's plays, kind by kind (printed by genplays9.py). The engine: append to lists of any kind in frames; literals of one value; functions as values; returns in memory behind a range over a function. Layer 9's plays: the walk over a matrix' rows. Layer 9: same, of two answers that say the same. -/
import Derived.Test.YtlhmehikajidhaaGreatPm8
import Derived.Test.YtlhmehikajidhaaGreatPm7
import Derived.Test.YtlhmehikajidhaaGreatPm6
set_option maxHeartbeats 8000000
set_option linter.unusedVariables false
set_option linter.unusedSimpArgs false
namespace Go.Proofs.YtlhmehikajidhaaGreat
open Go Go.Eng Go.Proofs Go.NatM Go.RowKit
set_option maxRecDepth 100000 in
theorem plays_lo (w : World) (o : OV) (ho : o.kind ≤ 7) (s0 : AS) (K : Nat) (hM : ∀ w1, Ext w w1 → Cl Tryz.prog 55 #[.agg (ovc o).toArray] w1 (RetA w1 s0 K)) : Cl Tryz.prog 16 #[.agg (ovc o).toArray] w (RetA w s0 K) := by
  obtain ⟨kd, ⟨ar, ac, aA, an, ak, al⟩, ⟨br, bc, bA, bn, bk, bl⟩, ⟨lA0, ln0, lk0, ll0⟩, ⟨kn, ⟨kA, km, kc, kl⟩⟩, on, om, pA, pn, pk, p, qA, qn, qk, q, sA, sn, sk, s⟩ := o
  dsimp only at ho
  refine enter Tryz.func16 rfl rfl rfl ?_
  have hF := Fr.refl w
  repeat' (first | (refine TL.isOp ?_; first | (refine TL.isCall ?_; refine TL.call rfl rfl ?_; first | (refine (hM _ hF.ext).mono ?_; rintro _ w1 ⟨⟨⟨xr, xc, xA, xn, xk, xl⟩, ⟨yn, ⟨yA, ym, yc, yl⟩⟩, ⟨lA, ln, lk, ll⟩, rA, rn, rk, rl, nA, nn, nk, ns, ok, e⟩, rfl, hA, hE, hf⟩; have hfx := hf.mono hF.ext.size; replace hF := Fr.addA hF hE hA hf; clear hE hA hf; refine Back.mk ?_)) | (refine TL.isBin ?_; refine TL.cmpG rfl rfl rfl rfl (fun hc => ?_) (fun hc => ?_) <;> (try (first | (exfalso; omega) | exact absurd rfl hc))) | (apply TL.ev; (case hd => rfl); (case h => (first | exact ev_simple rfl | (apply Ev.isLoad; first | exact ev_loadFr hF rfl (by refine ⟨?_, ?_⟩; (focus (repeat (first | exact InV.head | apply InV.tail))); rfl) | exact ev_loadAFr hF rfl (by refine ⟨?_, ?_⟩; (focus (repeat (first | exact InV.head | apply InV.tail))); rfl)) | exact ev_fieldAddr rfl))) | (refine TL.storeAFr hF rfl rfl rfl rfl (by refine ⟨?_, ?_⟩; (focus (repeat (first | apply SetV.head | apply SetV.tail))); rfl) rfl ?_; clear hF; intro ws hF) | (refine TL.boxAFr hF (d := 1) (cs := [.int .i64 kd, .int .i64 ar, .int .i64 ac, .slice aA an ak, .int .i64 br, .int .i64 bc, .slice bA bn bk, .slice lA0 ln0 lk0, .bool kn, .slice kA km kc, .int .i64 on, .int .i64 om, .slice pA pn pk, .slice qA qn qk, .slice sA sn sk]) rfl rfl ?_; clear hF; intro w1 b1 hF) | (refine TL.allocFr hF (d := 2) rfl rfl ?_; clear hF; intro w2 b2 hF) | (refine TL.allocFr hF (d := 3) rfl rfl ?_; clear hF; intro w3 b3 hF)) | (refine T.is ?_; first | refine T.seq ?_ | refine T.region ?_ | refine T.block ?_ | refine T.cond_f rfl ?_ | refine T.ret ?_) | (refine G.is ?_; first | refine G.next ?_ | refine G.blockR ?_ | refine G.thenR ?_) | refine TL.nil ?_)
  exact G.retC1 rfl rfl (held_agg (hF.var (by repeat (first | exact InV.head | apply InV.tail))) rfl) ⟨_, rfl, Fr.aok hF (by repeat (first | exact memH | apply memT)), hF.ext, hfx⟩
set_option maxRecDepth 100000 in
theorem makes1 (w : World) (o : OV) (ho : o.kind = 1) (err : Int) (K : Nat)
    (hC : ∀ w1, Ext w w1 → Cl Tryz.prog 66 #[.agg (mvc o.a).toArray] w1 (RetC w1 err)) : Cl Tryz.prog 55 #[.agg (ovc o).toArray] w (RetA w (sE err) K) := by
  obtain ⟨kd, ⟨ar, ac, aA, an, ak, al⟩, ⟨br, bc, bA, bn, bk, bl⟩, ⟨lA0, ln0, lk0, ll0⟩, ⟨kn, ⟨kA, km, kc, kl⟩⟩, on, om, pA, pn, pk, p, qA, qn, qk, q, sA, sn, sk, s⟩ := o
  dsimp only at ho
  subst ho
  refine enter Tryz.func55 rfl rfl rfl ?_
  have hF := Fr.refl w
  repeat' (first | (refine TL.isOp ?_; first | (refine TL.isCall ?_; refine TL.call rfl rfl ?_; first | (refine (hC _ hF.ext).mono ?_; rintro _ w1 ⟨rfl, hE⟩; replace hF := hF.exts hE; clear hE; refine Back.mk ?_)) | (refine TL.isBin ?_; refine TL.cmpG rfl rfl rfl rfl (fun hc => ?_) (fun hc => ?_) <;> (try (first | (exfalso; omega) | exact absurd rfl hc))) | (apply TL.ev; (case hd => rfl); (case h => (first | exact ev_simple rfl | (apply Ev.isLoad; first | exact ev_loadFr hF rfl (by refine ⟨?_, ?_⟩; (focus (repeat (first | exact InV.head | apply InV.tail))); rfl) | exact ev_loadAFr hF rfl (by refine ⟨?_, ?_⟩; (focus (repeat (first | exact InV.head | apply InV.tail))); rfl)) | exact ev_fieldAddr rfl))) | (refine TL.storeAFr hF rfl rfl rfl rfl (by refine ⟨?_, ?_⟩; (focus (repeat (first | apply SetV.head | apply SetV.tail))); rfl) rfl ?_; clear hF; intro ws hF) | (refine TL.storeFr hF rfl rfl rfl rfl (by refine ⟨?_, ?_⟩; (focus (repeat (first | apply SetV.head | apply SetV.tail))); rfl) rfl ?_; clear hF; intro ws hF) | (refine TL.boxAFr hF (d := 1) (cs := [.int .i64 1, .int .i64 ar, .int .i64 ac, .slice aA an ak, .int .i64 br, .int .i64 bc, .slice bA bn bk, .slice lA0 ln0 lk0, .bool kn, .slice kA km kc, .int .i64 on, .int .i64 om, .slice pA pn pk, .slice qA qn qk, .slice sA sn sk]) rfl rfl ?_; clear hF; intro w1 b1 hF) | (refine TL.allocFr hF (d := 2) rfl rfl ?_; clear hF; intro w2 b2 hF) | (refine TL.allocFr hF (d := 3) rfl rfl ?_; clear hF; intro w3 b3 hF)) | (refine T.is ?_; first | refine T.seq ?_ | refine T.region ?_ | refine T.block ?_ | refine T.cond_t rfl ?_ | refine T.ret ?_) | (refine G.is ?_; first | refine G.next ?_ | refine G.blockN ?_) | refine TL.nil ?_)
  exact G.retC1 rfl rfl (held_agg (hF.var (by repeat (first | exact InV.head | apply InV.tail))) rfl) ⟨⟨⟨0, 0, none, 0, 0, []⟩, ⟨false, ⟨none, 0, 0, []⟩⟩, ⟨none, 0, 0, []⟩, none, 0, 0, [], none, 0, 0, [], false, err⟩, rfl, aok_b _ false err K, hF.ext, af_x mf_none⟩
theorem plays1 (w : World) (o : OV) (ho : o.kind = 1) (err : Int) (K : Nat)
    (hC : ∀ w1, Ext w w1 → Cl Tryz.prog 66 #[.agg (mvc o.a).toArray] w1 (RetC w1 err)) : Cl Tryz.prog 16 #[.agg (ovc o).toArray] w (RetA w (sE err) K) :=
  plays_lo w o (by omega) _ K fun w1 hE => makes1 w1 o ho err K fun w2 hE2 => hC w2 (Ext.trans hE hE2)
set_option maxRecDepth 100000 in
theorem makes2 (w : World) (o : OV) (ho : o.kind = 2) (r c : Nat) (F : Nat → Nat → Int) (err : Int) (K : Nat)
    (hC : ∀ w1, Ext w w1 → Cl Tryz.prog 97 #[.int .i64 o.n, .int .i64 o.m, .slice o.l.A o.l.n o.l.k] w1 (RetX w1 r c F err K)) : Cl Tryz.prog 55 #[.agg (ovc o).toArray] w (RetA w (sX r c F err) K) := by
  obtain ⟨kd, ⟨ar, ac, aA, an, ak, al⟩, ⟨br, bc, bA, bn, bk, bl⟩, ⟨lA0, ln0, lk0, ll0⟩, ⟨kn, ⟨kA, km, kc, kl⟩⟩, on, om, pA, pn, pk, p, qA, qn, qk, q, sA, sn, sk, s⟩ := o
  dsimp only at ho
  subst ho
  refine enter Tryz.func55 rfl rfl rfl ?_
  have hF := Fr.refl w
  repeat' (first | (refine TL.isOp ?_; first | (refine TL.isCall ?_; refine TL.call rfl rfl ?_; first | (refine (hC _ hF.ext).mono ?_; rintro _ w1 ⟨⟨xr, xc, xA, xn, xk, xl⟩, rfl, hL, hE, hf⟩; have hfx := hf.mono hF.ext.size; replace hF := Fr.addLM hF hE hL hf; clear hE hf hL; refine Back.mk ?_)) | (refine TL.isBin ?_; refine TL.cmpG rfl rfl rfl rfl (fun hc => ?_) (fun hc => ?_) <;> (try (first | (exfalso; omega) | exact absurd rfl hc))) | (apply TL.ev; (case hd => rfl); (case h => (first | exact ev_simple rfl | (apply Ev.isLoad; first | exact ev_loadFr hF rfl (by refine ⟨?_, ?_⟩; (focus (repeat (first | exact InV.head | apply InV.tail))); rfl) | exact ev_loadAFr hF rfl (by refine ⟨?_, ?_⟩; (focus (repeat (first | exact InV.head | apply InV.tail))); rfl)) | exact ev_fieldAddr rfl))) | (refine TL.storeAFr hF rfl rfl rfl rfl (by refine ⟨?_, ?_⟩; (focus (repeat (first | apply SetV.head | apply SetV.tail))); rfl) rfl ?_; clear hF; intro ws hF) | (refine TL.storeFr hF rfl rfl rfl rfl (by refine ⟨?_, ?_⟩; (focus (repeat (first | apply SetV.head | apply SetV.tail))); rfl) rfl ?_; clear hF; intro ws hF) | (refine TL.boxAFr hF (d := 1) (cs := [.int .i64 2, .int .i64 ar, .int .i64 ac, .slice aA an ak, .int .i64 br, .int .i64 bc, .slice bA bn bk, .slice lA0 ln0 lk0, .bool kn, .slice kA km kc, .int .i64 on, .int .i64 om, .slice pA pn pk, .slice qA qn qk, .slice sA sn sk]) rfl rfl ?_; clear hF; intro w1 b1 hF) | (refine TL.allocFr hF (d := 2) rfl rfl ?_; clear hF; intro w2 b2 hF) | (refine TL.allocFr hF (d := 3) rfl rfl ?_; clear hF; intro w3 b3 hF)) | (refine T.is ?_; first | refine T.seq ?_ | refine T.region ?_ | refine T.block ?_ | refine T.cond_t rfl ?_ | refine T.cond_f rfl ?_ | refine T.ret ?_) | (refine G.is ?_; first | refine G.next ?_ | refine G.blockN ?_) | refine TL.nil ?_)
  exact G.retC1 rfl rfl (held_agg (hF.var (by repeat (first | exact InV.head | apply InV.tail))) rfl) ⟨⟨⟨xr, xc, xA, xn, xk, xl⟩, ⟨false, ⟨none, 0, 0, []⟩⟩, ⟨none, 0, 0, []⟩, none, 0, 0, [], none, 0, 0, [], false, err⟩, rfl, aok_x (Fr.lm hF (by repeat (first | exact memH | apply memT))), hF.ext, af_x hfx⟩
theorem plays2 (w : World) (o : OV) (ho : o.kind = 2) (r c : Nat) (F : Nat → Nat → Int) (err : Int) (K : Nat)
    (hC : ∀ w1, Ext w w1 → Cl Tryz.prog 97 #[.int .i64 o.n, .int .i64 o.m, .slice o.l.A o.l.n o.l.k] w1 (RetX w1 r c F err K)) : Cl Tryz.prog 16 #[.agg (ovc o).toArray] w (RetA w (sX r c F err) K) :=
  plays_lo w o (by omega) _ K fun w1 hE => makes2 w1 o ho r c F err K fun w2 hE2 => hC w2 (Ext.trans hE hE2)
set_option maxRecDepth 100000 in
theorem makes3 (w : World) (o : OV) (ho : o.kind = 3) (r c : Nat) (F : Nat → Nat → Int) (err : Int) (K : Nat)
    (hC : ∀ w1, Ext w w1 → Cl Tryz.prog 95 #[.agg (mvc o.a).toArray] w1 (RetX w1 r c F err K)) : Cl Tryz.prog 55 #[.agg (ovc o).toArray] w (RetA w (sX r c F err) K) := by
  obtain ⟨kd, ⟨ar, ac, aA, an, ak, al⟩, ⟨br, bc, bA, bn, bk, bl⟩, ⟨lA0, ln0, lk0, ll0⟩, ⟨kn, ⟨kA, km, kc, kl⟩⟩, on, om, pA, pn, pk, p, qA, qn, qk, q, sA, sn, sk, s⟩ := o
  dsimp only at ho
  subst ho
  refine enter Tryz.func55 rfl rfl rfl ?_
  have hF := Fr.refl w
  repeat' (first | (refine TL.isOp ?_; first | (refine TL.isCall ?_; refine TL.call rfl rfl ?_; first | (refine (hC _ hF.ext).mono ?_; rintro _ w1 ⟨⟨xr, xc, xA, xn, xk, xl⟩, rfl, hL, hE, hf⟩; have hfx := hf.mono hF.ext.size; replace hF := Fr.addLM hF hE hL hf; clear hE hf hL; refine Back.mk ?_)) | (refine TL.isBin ?_; refine TL.cmpG rfl rfl rfl rfl (fun hc => ?_) (fun hc => ?_) <;> (try (first | (exfalso; omega) | exact absurd rfl hc))) | (apply TL.ev; (case hd => rfl); (case h => (first | exact ev_simple rfl | (apply Ev.isLoad; first | exact ev_loadFr hF rfl (by refine ⟨?_, ?_⟩; (focus (repeat (first | exact InV.head | apply InV.tail))); rfl) | exact ev_loadAFr hF rfl (by refine ⟨?_, ?_⟩; (focus (repeat (first | exact InV.head | apply InV.tail))); rfl)) | exact ev_fieldAddr rfl))) | (refine TL.storeAFr hF rfl rfl rfl rfl (by refine ⟨?_, ?_⟩; (focus (repeat (first | apply SetV.head | apply SetV.tail))); rfl) rfl ?_; clear hF; intro ws hF) | (refine TL.storeFr hF rfl rfl rfl rfl (by refine ⟨?_, ?_⟩; (focus (repeat (first | apply SetV.head | apply SetV.tail))); rfl) rfl ?_; clear hF; intro ws hF) | (refine TL.boxAFr hF (d := 1) (cs := [.int .i64 3, .int .i64 ar, .int .i64 ac, .slice aA an ak, .int .i64 br, .int .i64 bc, .slice bA bn bk, .slice lA0 ln0 lk0, .bool kn, .slice kA km kc, .int .i64 on, .int .i64 om, .slice pA pn pk, .slice qA qn qk, .slice sA sn sk]) rfl rfl ?_; clear hF; intro w1 b1 hF) | (refine TL.allocFr hF (d := 2) rfl rfl ?_; clear hF; intro w2 b2 hF) | (refine TL.allocFr hF (d := 3) rfl rfl ?_; clear hF; intro w3 b3 hF)) | (refine T.is ?_; first | refine T.seq ?_ | refine T.region ?_ | refine T.block ?_ | refine T.cond_t rfl ?_ | refine T.cond_f rfl ?_ | refine T.ret ?_) | (refine G.is ?_; first | refine G.next ?_ | refine G.blockN ?_) | refine TL.nil ?_)
  exact G.retC1 rfl rfl (held_agg (hF.var (by repeat (first | exact InV.head | apply InV.tail))) rfl) ⟨⟨⟨xr, xc, xA, xn, xk, xl⟩, ⟨false, ⟨none, 0, 0, []⟩⟩, ⟨none, 0, 0, []⟩, none, 0, 0, [], none, 0, 0, [], false, err⟩, rfl, aok_x (Fr.lm hF (by repeat (first | exact memH | apply memT))), hF.ext, af_x hfx⟩
theorem plays3 (w : World) (o : OV) (ho : o.kind = 3) (r c : Nat) (F : Nat → Nat → Int) (err : Int) (K : Nat)
    (hC : ∀ w1, Ext w w1 → Cl Tryz.prog 95 #[.agg (mvc o.a).toArray] w1 (RetX w1 r c F err K)) : Cl Tryz.prog 16 #[.agg (ovc o).toArray] w (RetA w (sX r c F err) K) :=
  plays_lo w o (by omega) _ K fun w1 hE => makes3 w1 o ho r c F err K fun w2 hE2 => hC w2 (Ext.trans hE hE2)
set_option maxRecDepth 100000 in
theorem makes4 (w : World) (o : OV) (ho : o.kind = 4) (r c : Nat) (F : Nat → Nat → Int) (err : Int) (K : Nat)
    (hC : ∀ w1, Ext w w1 → Cl Tryz.prog 98 #[.int .i64 o.n, .int .i64 o.m] w1 (RetX w1 r c F err K)) : Cl Tryz.prog 55 #[.agg (ovc o).toArray] w (RetA w (sX r c F err) K) := by
  obtain ⟨kd, ⟨ar, ac, aA, an, ak, al⟩, ⟨br, bc, bA, bn, bk, bl⟩, ⟨lA0, ln0, lk0, ll0⟩, ⟨kn, ⟨kA, km, kc, kl⟩⟩, on, om, pA, pn, pk, p, qA, qn, qk, q, sA, sn, sk, s⟩ := o
  dsimp only at ho
  subst ho
  refine enter Tryz.func55 rfl rfl rfl ?_
  have hF := Fr.refl w
  repeat' (first | (refine TL.isOp ?_; first | (refine TL.isCall ?_; refine TL.call rfl rfl ?_; first | (refine (hC _ hF.ext).mono ?_; rintro _ w1 ⟨⟨xr, xc, xA, xn, xk, xl⟩, rfl, hL, hE, hf⟩; have hfx := hf.mono hF.ext.size; replace hF := Fr.addLM hF hE hL hf; clear hE hf hL; refine Back.mk ?_)) | (refine TL.isBin ?_; refine TL.cmpG rfl rfl rfl rfl (fun hc => ?_) (fun hc => ?_) <;> (try (first | (exfalso; omega) | exact absurd rfl hc))) | (apply TL.ev; (case hd => rfl); (case h => (first | exact ev_simple rfl | (apply Ev.isLoad; first | exact ev_loadFr hF rfl (by refine ⟨?_, ?_⟩; (focus (repeat (first | exact InV.head | apply InV.tail))); rfl) | exact ev_loadAFr hF rfl (by refine ⟨?_, ?_⟩; (focus (repeat (first | exact InV.head | apply InV.tail))); rfl)) | exact ev_fieldAddr rfl))) | (refine TL.storeAFr hF rfl rfl rfl rfl (by refine ⟨?_, ?_⟩; (focus (repeat (first | apply SetV.head | apply SetV.tail))); rfl) rfl ?_; clear hF; intro ws hF) | (refine TL.storeFr hF rfl rfl rfl rfl (by refine ⟨?_, ?_⟩; (focus (repeat (first | apply SetV.head | apply SetV.tail))); rfl) rfl ?_; clear hF; intro ws hF) | (refine TL.boxAFr hF (d := 1) (cs := [.int .i64 4, .int .i64 ar, .int .i64 ac, .slice aA an ak, .int .i64 br, .int .i64 bc, .slice bA bn bk, .slice lA0 ln0 lk0, .bool kn, .slice kA km kc, .int .i64 on, .int .i64 om, .slice pA pn pk, .slice qA qn qk, .slice sA sn sk]) rfl rfl ?_; clear hF; intro w1 b1 hF) | (refine TL.allocFr hF (d := 2) rfl rfl ?_; clear hF; intro w2 b2 hF) | (refine TL.allocFr hF (d := 3) rfl rfl ?_; clear hF; intro w3 b3 hF)) | (refine T.is ?_; first | refine T.seq ?_ | refine T.region ?_ | refine T.block ?_ | refine T.cond_t rfl ?_ | refine T.cond_f rfl ?_ | refine T.ret ?_) | (refine G.is ?_; first | refine G.next ?_ | refine G.blockN ?_) | refine TL.nil ?_)
  exact G.retC1 rfl rfl (held_agg (hF.var (by repeat (first | exact InV.head | apply InV.tail))) rfl) ⟨⟨⟨xr, xc, xA, xn, xk, xl⟩, ⟨false, ⟨none, 0, 0, []⟩⟩, ⟨none, 0, 0, []⟩, none, 0, 0, [], none, 0, 0, [], false, err⟩, rfl, aok_x (Fr.lm hF (by repeat (first | exact memH | apply memT))), hF.ext, af_x hfx⟩
theorem plays4 (w : World) (o : OV) (ho : o.kind = 4) (r c : Nat) (F : Nat → Nat → Int) (err : Int) (K : Nat)
    (hC : ∀ w1, Ext w w1 → Cl Tryz.prog 98 #[.int .i64 o.n, .int .i64 o.m] w1 (RetX w1 r c F err K)) : Cl Tryz.prog 16 #[.agg (ovc o).toArray] w (RetA w (sX r c F err) K) :=
  plays_lo w o (by omega) _ K fun w1 hE => makes4 w1 o ho r c F err K fun w2 hE2 => hC w2 (Ext.trans hE hE2)
set_option maxRecDepth 100000 in
theorem makes5 (w : World) (o : OV) (ho : o.kind = 5) (r c : Nat) (F : Nat → Nat → Int) (err : Int) (K : Nat)
    (hC : ∀ w1, Ext w w1 → Cl Tryz.prog 89 #[.int .i64 o.n] w1 (RetX w1 r c F err K)) : Cl Tryz.prog 55 #[.agg (ovc o).toArray] w (RetA w (sX r c F err) K) := by
  obtain ⟨kd, ⟨ar, ac, aA, an, ak, al⟩, ⟨br, bc, bA, bn, bk, bl⟩, ⟨lA0, ln0, lk0, ll0⟩, ⟨kn, ⟨kA, km, kc, kl⟩⟩, on, om, pA, pn, pk, p, qA, qn, qk, q, sA, sn, sk, s⟩ := o
  dsimp only at ho
  subst ho
  refine enter Tryz.func55 rfl rfl rfl ?_
  have hF := Fr.refl w
  repeat' (first | (refine TL.isOp ?_; first | (refine TL.isCall ?_; refine TL.call rfl rfl ?_; first | (refine (hC _ hF.ext).mono ?_; rintro _ w1 ⟨⟨xr, xc, xA, xn, xk, xl⟩, rfl, hL, hE, hf⟩; have hfx := hf.mono hF.ext.size; replace hF := Fr.addLM hF hE hL hf; clear hE hf hL; refine Back.mk ?_)) | (refine TL.isBin ?_; refine TL.cmpG rfl rfl rfl rfl (fun hc => ?_) (fun hc => ?_) <;> (try (first | (exfalso; omega) | exact absurd rfl hc))) | (apply TL.ev; (case hd => rfl); (case h => (first | exact ev_simple rfl | (apply Ev.isLoad; first | exact ev_loadFr hF rfl (by refine ⟨?_, ?_⟩; (focus (repeat (first | exact InV.head | apply InV.tail))); rfl) | exact ev_loadAFr hF rfl (by refine ⟨?_, ?_⟩; (focus (repeat (first | exact InV.head | apply InV.tail))); rfl)) | exact ev_fieldAddr rfl))) | (refine TL.storeAFr hF rfl rfl rfl rfl (by refine ⟨?_, ?_⟩; (focus (repeat (first | apply SetV.head | apply SetV.tail))); rfl) rfl ?_; clear hF; intro ws hF) | (refine TL.storeFr hF rfl rfl rfl rfl (by refine ⟨?_, ?_⟩; (focus (repeat (first | apply SetV.head | apply SetV.tail))); rfl) rfl ?_; clear hF; intro ws hF) | (refine TL.boxAFr hF (d := 1) (cs := [.int .i64 5, .int .i64 ar, .int .i64 ac, .slice aA an ak, .int .i64 br, .int .i64 bc, .slice bA bn bk, .slice lA0 ln0 lk0, .bool kn, .slice kA km kc, .int .i64 on, .int .i64 om, .slice pA pn pk, .slice qA qn qk, .slice sA sn sk]) rfl rfl ?_; clear hF; intro w1 b1 hF) | (refine TL.allocFr hF (d := 2) rfl rfl ?_; clear hF; intro w2 b2 hF) | (refine TL.allocFr hF (d := 3) rfl rfl ?_; clear hF; intro w3 b3 hF)) | (refine T.is ?_; first | refine T.seq ?_ | refine T.region ?_ | refine T.block ?_ | refine T.cond_t rfl ?_ | refine T.cond_f rfl ?_ | refine T.ret ?_) | (refine G.is ?_; first | refine G.next ?_ | refine G.blockN ?_) | refine TL.nil ?_)
  exact G.retC1 rfl rfl (held_agg (hF.var (by repeat (first | exact InV.head | apply InV.tail))) rfl) ⟨⟨⟨xr, xc, xA, xn, xk, xl⟩, ⟨false, ⟨none, 0, 0, []⟩⟩, ⟨none, 0, 0, []⟩, none, 0, 0, [], none, 0, 0, [], false, err⟩, rfl, aok_x (Fr.lm hF (by repeat (first | exact memH | apply memT))), hF.ext, af_x hfx⟩
theorem plays5 (w : World) (o : OV) (ho : o.kind = 5) (r c : Nat) (F : Nat → Nat → Int) (err : Int) (K : Nat)
    (hC : ∀ w1, Ext w w1 → Cl Tryz.prog 89 #[.int .i64 o.n] w1 (RetX w1 r c F err K)) : Cl Tryz.prog 16 #[.agg (ovc o).toArray] w (RetA w (sX r c F err) K) :=
  plays_lo w o (by omega) _ K fun w1 hE => makes5 w1 o ho r c F err K fun w2 hE2 => hC w2 (Ext.trans hE hE2)
set_option maxRecDepth 100000 in
theorem makes6 (w : World) (o : OV) (ho : o.kind = 6) (r c : Nat) (F : Nat → Nat → Int) (err : Int) (K : Nat)
    (hC : ∀ w1, Ext w w1 → Cl Tryz.prog 99 #[.int .i64 o.n, .int .i64 o.m, .slice o.l.A o.l.n o.l.k] w1 (RetX w1 r c F err K)) : Cl Tryz.prog 55 #[.agg (ovc o).toArray] w (RetA w (sX r c F err) K) := by
  obtain ⟨kd, ⟨ar, ac, aA, an, ak, al⟩, ⟨br, bc, bA, bn, bk, bl⟩, ⟨lA0, ln0, lk0, ll0⟩, ⟨kn, ⟨kA, km, kc, kl⟩⟩, on, om, pA, pn, pk, p, qA, qn, qk, q, sA, sn, sk, s⟩ := o
  dsimp only at ho
  subst ho
  refine enter Tryz.func55 rfl rfl rfl ?_
  have hF := Fr.refl w
  repeat' (first | (refine TL.isOp ?_; first | (refine TL.isCall ?_; refine TL.call rfl rfl ?_; first | (refine (hC _ hF.ext).mono ?_; rintro _ w1 ⟨⟨xr, xc, xA, xn, xk, xl⟩, rfl, hL, hE, hf⟩; have hfx := hf.mono hF.ext.size; replace hF := Fr.addLM hF hE hL hf; clear hE hf hL; refine Back.mk ?_)) | (refine TL.isBin ?_; refine TL.cmpG rfl rfl rfl rfl (fun hc => ?_) (fun hc => ?_) <;> (try (first | (exfalso; omega) | exact absurd rfl hc))) | (apply TL.ev; (case hd => rfl); (case h => (first | exact ev_simple rfl | (apply Ev.isLoad; first | exact ev_loadFr hF rfl (by refine ⟨?_, ?_⟩; (focus (repeat (first | exact InV.head | apply InV.tail))); rfl) | exact ev_loadAFr hF rfl (by refine ⟨?_, ?_⟩; (focus (repeat (first | exact InV.head | apply InV.tail))); rfl)) | exact ev_fieldAddr rfl))) | (refine TL.storeAFr hF rfl rfl rfl rfl (by refine ⟨?_, ?_⟩; (focus (repeat (first | apply SetV.head | apply SetV.tail))); rfl) rfl ?_; clear hF; intro ws hF) | (refine TL.storeFr hF rfl rfl rfl rfl (by refine ⟨?_, ?_⟩; (focus (repeat (first | apply SetV.head | apply SetV.tail))); rfl) rfl ?_; clear hF; intro ws hF) | (refine TL.boxAFr hF (d := 1) (cs := [.int .i64 6, .int .i64 ar, .int .i64 ac, .slice aA an ak, .int .i64 br, .int .i64 bc, .slice bA bn bk, .slice lA0 ln0 lk0, .bool kn, .slice kA km kc, .int .i64 on, .int .i64 om, .slice pA pn pk, .slice qA qn qk, .slice sA sn sk]) rfl rfl ?_; clear hF; intro w1 b1 hF) | (refine TL.allocFr hF (d := 2) rfl rfl ?_; clear hF; intro w2 b2 hF) | (refine TL.allocFr hF (d := 3) rfl rfl ?_; clear hF; intro w3 b3 hF)) | (refine T.is ?_; first | refine T.seq ?_ | refine T.region ?_ | refine T.block ?_ | refine T.cond_t rfl ?_ | refine T.cond_f rfl ?_ | refine T.ret ?_) | (refine G.is ?_; first | refine G.next ?_ | refine G.blockN ?_) | refine TL.nil ?_)
  exact G.retC1 rfl rfl (held_agg (hF.var (by repeat (first | exact InV.head | apply InV.tail))) rfl) ⟨⟨⟨xr, xc, xA, xn, xk, xl⟩, ⟨false, ⟨none, 0, 0, []⟩⟩, ⟨none, 0, 0, []⟩, none, 0, 0, [], none, 0, 0, [], false, err⟩, rfl, aok_x (Fr.lm hF (by repeat (first | exact memH | apply memT))), hF.ext, af_x hfx⟩
theorem plays6 (w : World) (o : OV) (ho : o.kind = 6) (r c : Nat) (F : Nat → Nat → Int) (err : Int) (K : Nat)
    (hC : ∀ w1, Ext w w1 → Cl Tryz.prog 99 #[.int .i64 o.n, .int .i64 o.m, .slice o.l.A o.l.n o.l.k] w1 (RetX w1 r c F err K)) : Cl Tryz.prog 16 #[.agg (ovc o).toArray] w (RetA w (sX r c F err) K) :=
  plays_lo w o (by omega) _ K fun w1 hE => makes6 w1 o ho r c F err K fun w2 hE2 => hC w2 (Ext.trans hE hE2)
set_option maxRecDepth 100000 in
theorem makes7 (w : World) (o : OV) (ho : o.kind = 7) (b : Bool) (err : Int) (K : Nat)
    (hC : ∀ w1, Ext w w1 → Cl Tryz.prog 100 #[.agg (mvc o.a).toArray, .agg (mvc o.b).toArray] w1 (RetBE w1 b err)) : Cl Tryz.prog 55 #[.agg (ovc o).toArray] w (RetA w (sB b err) K) := by
  obtain ⟨kd, ⟨ar, ac, aA, an, ak, al⟩, ⟨br, bc, bA, bn, bk, bl⟩, ⟨lA0, ln0, lk0, ll0⟩, ⟨kn, ⟨kA, km, kc, kl⟩⟩, on, om, pA, pn, pk, p, qA, qn, qk, q, sA, sn, sk, s⟩ := o
  dsimp only at ho
  subst ho
  refine enter Tryz.func55 rfl rfl rfl ?_
  have hF := Fr.refl w
  repeat' (first | (refine TL.isOp ?_; first | (refine TL.isCall ?_; refine TL.call rfl rfl ?_; first | (refine (hC _ hF.ext).mono ?_; rintro _ w1 ⟨rfl, hE⟩; replace hF := hF.exts hE; clear hE; refine Back.mk ?_)) | (refine TL.isBin ?_; refine TL.cmpG rfl rfl rfl rfl (fun hc => ?_) (fun hc => ?_) <;> (try (first | (exfalso; omega) | exact absurd rfl hc))) | (apply TL.ev; (case hd => rfl); (case h => (first | exact ev_simple rfl | (apply Ev.isLoad; first | exact ev_loadFr hF rfl (by refine ⟨?_, ?_⟩; (focus (repeat (first | exact InV.head | apply InV.tail))); rfl) | exact ev_loadAFr hF rfl (by refine ⟨?_, ?_⟩; (focus (repeat (first | exact InV.head | apply InV.tail))); rfl)) | exact ev_fieldAddr rfl))) | (refine TL.storeAFr hF rfl rfl rfl rfl (by refine ⟨?_, ?_⟩; (focus (repeat (first | apply SetV.head | apply SetV.tail))); rfl) rfl ?_; clear hF; intro ws hF) | (refine TL.storeFr hF rfl rfl rfl rfl (by refine ⟨?_, ?_⟩; (focus (repeat (first | apply SetV.head | apply SetV.tail))); rfl) rfl ?_; clear hF; intro ws hF) | (refine TL.boxAFr hF (d := 1) (cs := [.int .i64 7, .int .i64 ar, .int .i64 ac, .slice aA an ak, .int .i64 br, .int .i64 bc, .slice bA bn bk, .slice lA0 ln0 lk0, .bool kn, .slice kA km kc, .int .i64 on, .int .i64 om, .slice pA pn pk, .slice qA qn qk, .slice sA sn sk]) rfl rfl ?_; clear hF; intro w1 b1 hF) | (refine TL.allocFr hF (d := 2) rfl rfl ?_; clear hF; intro w2 b2 hF) | (refine TL.allocFr hF (d := 3) rfl rfl ?_; clear hF; intro w3 b3 hF)) | (refine T.is ?_; first | refine T.seq ?_ | refine T.region ?_ | refine T.block ?_ | refine T.cond_t rfl ?_ | refine T.cond_f rfl ?_ | refine T.ret ?_) | (refine G.is ?_; first | refine G.next ?_ | refine G.blockN ?_) | refine TL.nil ?_)
  exact G.retC1 rfl rfl (held_agg (hF.var (by repeat (first | exact InV.head | apply InV.tail))) rfl) ⟨⟨⟨0, 0, none, 0, 0, []⟩, ⟨false, ⟨none, 0, 0, []⟩⟩, ⟨none, 0, 0, []⟩, none, 0, 0, [], none, 0, 0, [], b, err⟩, rfl, aok_b _ b err K, hF.ext, af_x mf_none⟩
theorem plays7 (w : World) (o : OV) (ho : o.kind = 7) (b : Bool) (err : Int) (K : Nat)
    (hC : ∀ w1, Ext w w1 → Cl Tryz.prog 100 #[.agg (mvc o.a).toArray, .agg (mvc o.b).toArray] w1 (RetBE w1 b err)) : Cl Tryz.prog 16 #[.agg (ovc o).toArray] w (RetA w (sB b err) K) :=
  plays_lo w o (by omega) _ K fun w1 hE => makes7 w1 o ho b err K fun w2 hE2 => hC w2 (Ext.trans hE hE2)
set_option maxRecDepth 100000 in
theorem plays8 (w : World) (o : OV) (ho : o.kind = 8) (r c : Nat) (F : Nat → Nat → Int) (err : Int) (K : Nat)
    (hC : ∀ w1, Ext w w1 → Cl Tryz.prog 43 #[.agg (mvc o.a).toArray, .agg (mvc o.b).toArray] w1 (RetX w1 r c F err K)) : Cl Tryz.prog 16 #[.agg (ovc o).toArray] w (RetA w (sX r c F err) K) := by
  obtain ⟨kd, ⟨ar, ac, aA, an, ak, al⟩, ⟨br, bc, bA, bn, bk, bl⟩, ⟨lA0, ln0, lk0, ll0⟩, ⟨kn, ⟨kA, km, kc, kl⟩⟩, on, om, pA, pn, pk, p, qA, qn, qk, q, sA, sn, sk, s⟩ := o
  dsimp only at ho
  subst ho
  refine enter Tryz.func16 rfl rfl rfl ?_
  have hF := Fr.refl w
  repeat' (first | (refine TL.isOp ?_; first | (refine TL.isCall ?_; refine TL.call rfl rfl ?_; first | (refine (hC _ hF.ext).mono ?_; rintro _ w1 ⟨⟨xr, xc, xA, xn, xk, xl⟩, rfl, hL, hE, hf⟩; have hfx := hf.mono hF.ext.size; replace hF := Fr.addLM hF hE hL hf; clear hE hf hL; refine Back.mk ?_)) | (refine TL.isBin ?_; refine TL.cmpG rfl rfl rfl rfl (fun hc => ?_) (fun hc => ?_) <;> (try (first | (exfalso; omega) | exact absurd rfl hc))) | (apply TL.ev; (case hd => rfl); (case h => (first | exact ev_simple rfl | (apply Ev.isLoad; first | exact ev_loadFr hF rfl (by refine ⟨?_, ?_⟩; (focus (repeat (first | exact InV.head | apply InV.tail))); rfl) | exact ev_loadAFr hF rfl (by refine ⟨?_, ?_⟩; (focus (repeat (first | exact InV.head | apply InV.tail))); rfl)) | exact ev_fieldAddr rfl))) | (refine TL.storeAFr hF rfl rfl rfl rfl (by refine ⟨?_, ?_⟩; (focus (repeat (first | apply SetV.head | apply SetV.tail))); rfl) rfl ?_; clear hF; intro ws hF) | (refine TL.storeFr hF rfl rfl rfl rfl (by refine ⟨?_, ?_⟩; (focus (repeat (first | apply SetV.head | apply SetV.tail))); rfl) rfl ?_; clear hF; intro ws hF) | (refine TL.boxAFr hF (d := 1) (cs := [.int .i64 8, .int .i64 ar, .int .i64 ac, .slice aA an ak, .int .i64 br, .int .i64 bc, .slice bA bn bk, .slice lA0 ln0 lk0, .bool kn, .slice kA km kc, .int .i64 on, .int .i64 om, .slice pA pn pk, .slice qA qn qk, .slice sA sn sk]) rfl rfl ?_; clear hF; intro w1 b1 hF) | (refine TL.allocFr hF (d := 2) rfl rfl ?_; clear hF; intro w2 b2 hF) | (refine TL.allocFr hF (d := 3) rfl rfl ?_; clear hF; intro w3 b3 hF)) | (refine T.is ?_; first | refine T.seq ?_ | refine T.region ?_ | refine T.block ?_ | refine T.cond_t rfl ?_ | refine T.ret ?_) | (refine G.is ?_; first | refine G.next ?_ | refine G.blockN ?_) | refine TL.nil ?_)
  exact G.retC1 rfl rfl (held_agg (hF.var (by repeat (first | exact InV.head | apply InV.tail))) rfl) ⟨⟨⟨xr, xc, xA, xn, xk, xl⟩, ⟨false, ⟨none, 0, 0, []⟩⟩, ⟨none, 0, 0, []⟩, none, 0, 0, [], none, 0, 0, [], false, err⟩, rfl, aok_x (Fr.lm hF (by repeat (first | exact memH | apply memT))), hF.ext, af_x hfx⟩
set_option maxRecDepth 100000 in
theorem plays9 (w : World) (o : OV) (ho : o.kind = 9) (r c : Nat) (F : Nat → Nat → Int) (err : Int) (K : Nat)
    (hC : ∀ w1, Ext w w1 → Cl Tryz.prog 44 #[.agg (mvc o.a).toArray, .agg (mvc o.b).toArray] w1 (RetX w1 r c F err K)) : Cl Tryz.prog 16 #[.agg (ovc o).toArray] w (RetA w (sX r c F err) K) := by
  obtain ⟨kd, ⟨ar, ac, aA, an, ak, al⟩, ⟨br, bc, bA, bn, bk, bl⟩, ⟨lA0, ln0, lk0, ll0⟩, ⟨kn, ⟨kA, km, kc, kl⟩⟩, on, om, pA, pn, pk, p, qA, qn, qk, q, sA, sn, sk, s⟩ := o
  dsimp only at ho
  subst ho
  refine enter Tryz.func16 rfl rfl rfl ?_
  have hF := Fr.refl w
  repeat' (first | (refine TL.isOp ?_; first | (refine TL.isCall ?_; refine TL.call rfl rfl ?_; first | (refine (hC _ hF.ext).mono ?_; rintro _ w1 ⟨⟨xr, xc, xA, xn, xk, xl⟩, rfl, hL, hE, hf⟩; have hfx := hf.mono hF.ext.size; replace hF := Fr.addLM hF hE hL hf; clear hE hf hL; refine Back.mk ?_)) | (refine TL.isBin ?_; refine TL.cmpG rfl rfl rfl rfl (fun hc => ?_) (fun hc => ?_) <;> (try (first | (exfalso; omega) | exact absurd rfl hc))) | (apply TL.ev; (case hd => rfl); (case h => (first | exact ev_simple rfl | (apply Ev.isLoad; first | exact ev_loadFr hF rfl (by refine ⟨?_, ?_⟩; (focus (repeat (first | exact InV.head | apply InV.tail))); rfl) | exact ev_loadAFr hF rfl (by refine ⟨?_, ?_⟩; (focus (repeat (first | exact InV.head | apply InV.tail))); rfl)) | exact ev_fieldAddr rfl))) | (refine TL.storeAFr hF rfl rfl rfl rfl (by refine ⟨?_, ?_⟩; (focus (repeat (first | apply SetV.head | apply SetV.tail))); rfl) rfl ?_; clear hF; intro ws hF) | (refine TL.storeFr hF rfl rfl rfl rfl (by refine ⟨?_, ?_⟩; (focus (repeat (first | apply SetV.head | apply SetV.tail))); rfl) rfl ?_; clear hF; intro ws hF) | (refine TL.boxAFr hF (d := 1) (cs := [.int .i64 9, .int .i64 ar, .int .i64 ac, .slice aA an ak, .int .i64 br, .int .i64 bc, .slice bA bn bk, .slice lA0 ln0 lk0, .bool kn, .slice kA km kc, .int .i64 on, .int .i64 om, .slice pA pn pk, .slice qA qn qk, .slice sA sn sk]) rfl rfl ?_; clear hF; intro w1 b1 hF) | (refine TL.allocFr hF (d := 2) rfl rfl ?_; clear hF; intro w2 b2 hF) | (refine TL.allocFr hF (d := 3) rfl rfl ?_; clear hF; intro w3 b3 hF)) | (refine T.is ?_; first | refine T.seq ?_ | refine T.region ?_ | refine T.block ?_ | refine T.cond_t rfl ?_ | refine T.cond_f rfl ?_ | refine T.ret ?_) | (refine G.is ?_; first | refine G.next ?_ | refine G.blockN ?_) | refine TL.nil ?_)
  exact G.retC1 rfl rfl (held_agg (hF.var (by repeat (first | exact InV.head | apply InV.tail))) rfl) ⟨⟨⟨xr, xc, xA, xn, xk, xl⟩, ⟨false, ⟨none, 0, 0, []⟩⟩, ⟨none, 0, 0, []⟩, none, 0, 0, [], none, 0, 0, [], false, err⟩, rfl, aok_x (Fr.lm hF (by repeat (first | exact memH | apply memT))), hF.ext, af_x hfx⟩
set_option maxRecDepth 100000 in
theorem plays10 (w : World) (o : OV) (ho : o.kind = 10) (r c : Nat) (F : Nat → Nat → Int) (err : Int) (K : Nat)
    (hC : ∀ w1, Ext w w1 → Cl Tryz.prog 45 #[.agg (ivc o.k).toArray, .agg (mvc o.a).toArray] w1 (RetX w1 r c F err K)) : Cl Tryz.prog 16 #[.agg (ovc o).toArray] w (RetA w (sX r c F err) K) := by
  obtain ⟨kd, ⟨ar, ac, aA, an, ak, al⟩, ⟨br, bc, bA, bn, bk, bl⟩, ⟨lA0, ln0, lk0, ll0⟩, ⟨kn, ⟨kA, km, kc, kl⟩⟩, on, om, pA, pn, pk, p, qA, qn, qk, q, sA, sn, sk, s⟩ := o
  dsimp only at ho
  subst ho
  refine enter Tryz.func16 rfl rfl rfl ?_
  have hF := Fr.refl w
  repeat' (first | (refine TL.isOp ?_; first | (refine TL.isCall ?_; refine TL.call rfl rfl ?_; first | (refine (hC _ hF.ext).mono ?_; rintro _ w1 ⟨⟨xr, xc, xA, xn, xk, xl⟩, rfl, hL, hE, hf⟩; have hfx := hf.mono hF.ext.size; replace hF := Fr.addLM hF hE hL hf; clear hE hf hL; refine Back.mk ?_)) | (refine TL.isBin ?_; refine TL.cmpG rfl rfl rfl rfl (fun hc => ?_) (fun hc => ?_) <;> (try (first | (exfalso; omega) | exact absurd rfl hc))) | (apply TL.ev; (case hd => rfl); (case h => (first | exact ev_simple rfl | (apply Ev.isLoad; first | exact ev_loadFr hF rfl (by refine ⟨?_, ?_⟩; (focus (repeat (first | exact InV.head | apply InV.tail))); rfl) | exact ev_loadAFr hF rfl (by refine ⟨?_, ?_⟩; (focus (repeat (first | exact InV.head | apply InV.tail))); rfl)) | exact ev_fieldAddr rfl))) | (refine TL.storeAFr hF rfl rfl rfl rfl (by refine ⟨?_, ?_⟩; (focus (repeat (first | apply SetV.head | apply SetV.tail))); rfl) rfl ?_; clear hF; intro ws hF) | (refine TL.storeFr hF rfl rfl rfl rfl (by refine ⟨?_, ?_⟩; (focus (repeat (first | apply SetV.head | apply SetV.tail))); rfl) rfl ?_; clear hF; intro ws hF) | (refine TL.boxAFr hF (d := 1) (cs := [.int .i64 10, .int .i64 ar, .int .i64 ac, .slice aA an ak, .int .i64 br, .int .i64 bc, .slice bA bn bk, .slice lA0 ln0 lk0, .bool kn, .slice kA km kc, .int .i64 on, .int .i64 om, .slice pA pn pk, .slice qA qn qk, .slice sA sn sk]) rfl rfl ?_; clear hF; intro w1 b1 hF) | (refine TL.allocFr hF (d := 2) rfl rfl ?_; clear hF; intro w2 b2 hF) | (refine TL.allocFr hF (d := 3) rfl rfl ?_; clear hF; intro w3 b3 hF)) | (refine T.is ?_; first | refine T.seq ?_ | refine T.region ?_ | refine T.block ?_ | refine T.cond_t rfl ?_ | refine T.cond_f rfl ?_ | refine T.ret ?_) | (refine G.is ?_; first | refine G.next ?_ | refine G.blockN ?_) | refine TL.nil ?_)
  exact G.retC1 rfl rfl (held_agg (hF.var (by repeat (first | exact InV.head | apply InV.tail))) rfl) ⟨⟨⟨xr, xc, xA, xn, xk, xl⟩, ⟨false, ⟨none, 0, 0, []⟩⟩, ⟨none, 0, 0, []⟩, none, 0, 0, [], none, 0, 0, [], false, err⟩, rfl, aok_x (Fr.lm hF (by repeat (first | exact memH | apply memT))), hF.ext, af_x hfx⟩
set_option maxRecDepth 100000 in
theorem plays11 (w : World) (o : OV) (ho : o.kind = 11) (r c : Nat) (F : Nat → Nat → Int) (err : Int) (K : Nat)
    (hC : ∀ w1, Ext w w1 → Cl Tryz.prog 9 #[.agg (mvc o.a).toArray, .agg (mvc o.b).toArray] w1 (RetX w1 r c F err K)) : Cl Tryz.prog 16 #[.agg (ovc o).toArray] w (RetA w (sX r c F err) K) := by
  obtain ⟨kd, ⟨ar, ac, aA, an, ak, al⟩, ⟨br, bc, bA, bn, bk, bl⟩, ⟨lA0, ln0, lk0, ll0⟩, ⟨kn, ⟨kA, km, kc, kl⟩⟩, on, om, pA, pn, pk, p, qA, qn, qk, q, sA, sn, sk, s⟩ := o
  dsimp only at ho
  subst ho
  refine enter Tryz.func16 rfl rfl rfl ?_
  have hF := Fr.refl w
  repeat' (first | (refine TL.isOp ?_; first | (refine TL.isCall ?_; refine TL.call rfl rfl ?_; first | (refine (hC _ hF.ext).mono ?_; rintro _ w1 ⟨⟨xr, xc, xA, xn, xk, xl⟩, rfl, hL, hE, hf⟩; have hfx := hf.mono hF.ext.size; replace hF := Fr.addLM hF hE hL hf; clear hE hf hL; refine Back.mk ?_)) | (refine TL.isBin ?_; refine TL.cmpG rfl rfl rfl rfl (fun hc => ?_) (fun hc => ?_) <;> (try (first | (exfalso; omega) | exact absurd rfl hc))) | (apply TL.ev; (case hd => rfl); (case h => (first | exact ev_simple rfl | (apply Ev.isLoad; first | exact ev_loadFr hF rfl (by refine ⟨?_, ?_⟩; (focus (repeat (first | exact InV.head | apply InV.tail))); rfl) | exact ev_loadAFr hF rfl (by refine ⟨?_, ?_⟩; (focus (repeat (first | exact InV.head | apply InV.tail))); rfl)) | exact ev_fieldAddr rfl))) | (refine TL.storeAFr hF rfl rfl rfl rfl (by refine ⟨?_, ?_⟩; (focus (repeat (first | apply SetV.head | apply SetV.tail))); rfl) rfl ?_; clear hF; intro ws hF) | (refine TL.storeFr hF rfl rfl rfl rfl (by refine ⟨?_, ?_⟩; (focus (repeat (first | apply SetV.head | apply SetV.tail))); rfl) rfl ?_; clear hF; intro ws hF) | (refine TL.boxAFr hF (d := 1) (cs := [.int .i64 11, .int .i64 ar, .int .i64 ac, .slice aA an ak, .int .i64 br, .int .i64 bc, .slice bA bn bk, .slice lA0 ln0 lk0, .bool kn, .slice kA km kc, .int .i64 on, .int .i64 om, .slice pA pn pk, .slice qA qn qk, .slice sA sn sk]) rfl rfl ?_; clear hF; intro w1 b1 hF) | (refine TL.allocFr hF (d := 2) rfl rfl ?_; clear hF; intro w2 b2 hF) | (refine TL.allocFr hF (d := 3) rfl rfl ?_; clear hF; intro w3 b3 hF)) | (refine T.is ?_; first | refine T.seq ?_ | refine T.region ?_ | refine T.block ?_ | refine T.cond_t rfl ?_ | refine T.cond_f rfl ?_ | refine T.ret ?_) | (refine G.is ?_; first | refine G.next ?_ | refine G.blockN ?_) | refine TL.nil ?_)
  exact G.retC1 rfl rfl (held_agg (hF.var (by repeat (first | exact InV.head | apply InV.tail))) rfl) ⟨⟨⟨xr, xc, xA, xn, xk, xl⟩, ⟨false, ⟨none, 0, 0, []⟩⟩, ⟨none, 0, 0, []⟩, none, 0, 0, [], none, 0, 0, [], false, err⟩, rfl, aok_x (Fr.lm hF (by repeat (first | exact memH | apply memT))), hF.ext, af_x hfx⟩
set_option maxRecDepth 100000 in
theorem plays12 (w : World) (o : OV) (ho : o.kind = 12) (n : Nat) (Z : Nat → Int) (err : Int) (K : Nat)
    (hC : ∀ w1, Ext w w1 → Cl Tryz.prog 46 #[.slice o.l.A o.l.n o.l.k, .agg (mvc o.a).toArray] w1 (RetV w1 n Z err K)) : Cl Tryz.prog 16 #[.agg (ovc o).toArray] w (RetA w (sL n Z err) K) := by
  obtain ⟨kd, ⟨ar, ac, aA, an, ak, al⟩, ⟨br, bc, bA, bn, bk, bl⟩, ⟨lA0, ln0, lk0, ll0⟩, ⟨kn, ⟨kA, km, kc, kl⟩⟩, on, om, pA, pn, pk, p, qA, qn, qk, q, sA, sn, sk, s⟩ := o
  dsimp only at ho
  subst ho
  refine enter Tryz.func16 rfl rfl rfl ?_
  have hF := Fr.refl w
  repeat' (first | (refine TL.isOp ?_; first | (refine TL.isCall ?_; refine TL.call rfl rfl ?_; first | (refine (hC _ hF.ext).mono ?_; rintro _ w1 ⟨lA, lk, ll, rfl, hL, hE, hf⟩; have hfx := LF.mono hf hF.ext.size; replace hF := Fr.addLL hF hE hL hf; clear hE hf hL; refine Back.mk ?_)) | (refine TL.isBin ?_; refine TL.cmpG rfl rfl rfl rfl (fun hc => ?_) (fun hc => ?_) <;> (try (first | (exfalso; omega) | exact absurd rfl hc))) | (apply TL.ev; (case hd => rfl); (case h => (first | exact ev_simple rfl | (apply Ev.isLoad; first | exact ev_loadFr hF rfl (by refine ⟨?_, ?_⟩; (focus (repeat (first | exact InV.head | apply InV.tail))); rfl) | exact ev_loadAFr hF rfl (by refine ⟨?_, ?_⟩; (focus (repeat (first | exact InV.head | apply InV.tail))); rfl)) | exact ev_fieldAddr rfl))) | (refine TL.storeAFr hF rfl rfl rfl rfl (by refine ⟨?_, ?_⟩; (focus (repeat (first | apply SetV.head | apply SetV.tail))); rfl) rfl ?_; clear hF; intro ws hF) | (refine TL.storeFr hF rfl rfl rfl rfl (by refine ⟨?_, ?_⟩; (focus (repeat (first | apply SetV.head | apply SetV.tail))); rfl) rfl ?_; clear hF; intro ws hF) | (refine TL.boxAFr hF (d := 1) (cs := [.int .i64 12, .int .i64 ar, .int .i64 ac, .slice aA an ak, .int .i64 br, .int .i64 bc, .slice bA bn bk, .slice lA0 ln0 lk0, .bool kn, .slice kA km kc, .int .i64 on, .int .i64 om, .slice pA pn pk, .slice qA qn qk, .slice sA sn sk]) rfl rfl ?_; clear hF; intro w1 b1 hF) | (refine TL.allocFr hF (d := 2) rfl rfl ?_; clear hF; intro w2 b2 hF) | (refine TL.allocFr hF (d := 3) rfl rfl ?_; clear hF; intro w3 b3 hF)) | (refine T.is ?_; first | refine T.seq ?_ | refine T.region ?_ | refine T.block ?_ | refine T.cond_t rfl ?_ | refine T.cond_f rfl ?_ | refine T.ret ?_) | (refine G.is ?_; first | refine G.next ?_ | refine G.blockN ?_) | refine TL.nil ?_)
  exact G.retC1 rfl rfl (held_agg (hF.var (by repeat (first | exact InV.head | apply InV.tail))) rfl) ⟨⟨⟨0, 0, none, 0, 0, []⟩, ⟨false, ⟨none, 0, 0, []⟩⟩, ⟨lA, n, lk, ll⟩, none, 0, 0, [], none, 0, 0, [], false, err⟩, rfl, aok_l (Fr.ll hF (by repeat (first | exact memH | apply memT))), hF.ext, af_l hfx⟩
set_option maxRecDepth 100000 in
theorem plays13 (w : World) (o : OV) (ho : o.kind = 13) (r c : Nat) (F : Nat → Nat → Int) (err : Int) (K : Nat)
    (hC : ∀ w1, Ext w w1 → Cl Tryz.prog 47 #[.agg (mvc o.a).toArray, .int .i64 o.n] w1 (RetX w1 r c F err K)) : Cl Tryz.prog 16 #[.agg (ovc o).toArray] w (RetA w (sX r c F err) K) := by
  obtain ⟨kd, ⟨ar, ac, aA, an, ak, al⟩, ⟨br, bc, bA, bn, bk, bl⟩, ⟨lA0, ln0, lk0, ll0⟩, ⟨kn, ⟨kA, km, kc, kl⟩⟩, on, om, pA, pn, pk, p, qA, qn, qk, q, sA, sn, sk, s⟩ := o
  dsimp only at ho
  subst ho
  refine enter Tryz.func16 rfl rfl rfl ?_
  have hF := Fr.refl w
  repeat' (first | (refine TL.isOp ?_; first | (refine TL.isCall ?_; refine TL.call rfl rfl ?_; first | (refine (hC _ hF.ext).mono ?_; rintro _ w1 ⟨⟨xr, xc, xA, xn, xk, xl⟩, rfl, hL, hE, hf⟩; have hfx := hf.mono hF.ext.size; replace hF := Fr.addLM hF hE hL hf; clear hE hf hL; refine Back.mk ?_)) | (refine TL.isBin ?_; refine TL.cmpG rfl rfl rfl rfl (fun hc => ?_) (fun hc => ?_) <;> (try (first | (exfalso; omega) | exact absurd rfl hc))) | (apply TL.ev; (case hd => rfl); (case h => (first | exact ev_simple rfl | (apply Ev.isLoad; first | exact ev_loadFr hF rfl (by refine ⟨?_, ?_⟩; (focus (repeat (first | exact InV.head | apply InV.tail))); rfl) | exact ev_loadAFr hF rfl (by refine ⟨?_, ?_⟩; (focus (repeat (first | exact InV.head | apply InV.tail))); rfl)) | exact ev_fieldAddr rfl))) | (refine TL.storeAFr hF rfl rfl rfl rfl (by refine ⟨?_, ?_⟩; (focus (repeat (first | apply SetV.head | apply SetV.tail))); rfl) rfl ?_; clear hF; intro ws hF) | (refine TL.storeFr hF rfl rfl rfl rfl (by refine ⟨?_, ?_⟩; (focus (repeat (first | apply SetV.head | apply SetV.tail))); rfl) rfl ?_; clear hF; intro ws hF) | (refine TL.boxAFr hF (d := 1) (cs := [.int .i64 13, .int .i64 ar, .int .i64 ac, .slice aA an ak, .int .i64 br, .int .i64 bc, .slice bA bn bk, .slice lA0 ln0 lk0, .bool kn, .slice kA km kc, .int .i64 on, .int .i64 om, .slice pA pn pk, .slice qA qn qk, .slice sA sn sk]) rfl rfl ?_; clear hF; intro w1 b1 hF) | (refine TL.allocFr hF (d := 2) rfl rfl ?_; clear hF; intro w2 b2 hF) | (refine TL.allocFr hF (d := 3) rfl rfl ?_; clear hF; intro w3 b3 hF)) | (refine T.is ?_; first | refine T.seq ?_ | refine T.region ?_ | refine T.block ?_ | refine T.cond_t rfl ?_ | refine T.cond_f rfl ?_ | refine T.ret ?_) | (refine G.is ?_; first | refine G.next ?_ | refine G.blockN ?_) | refine TL.nil ?_)
  exact G.retC1 rfl rfl (held_agg (hF.var (by repeat (first | exact InV.head | apply InV.tail))) rfl) ⟨⟨⟨xr, xc, xA, xn, xk, xl⟩, ⟨false, ⟨none, 0, 0, []⟩⟩, ⟨none, 0, 0, []⟩, none, 0, 0, [], none, 0, 0, [], false, err⟩, rfl, aok_x (Fr.lm hF (by repeat (first | exact memH | apply memT))), hF.ext, af_x hfx⟩
set_option maxRecDepth 100000 in
theorem plays14 (w : World) (o : OV) (ho : o.kind = 14) (r c : Nat) (F : Nat → Nat → Int) (err : Int) (K : Nat)
    (hC : ∀ w1, Ext w w1 → Cl Tryz.prog 48 #[.agg (mvc o.a).toArray] w1 (RetX w1 r c F err K)) : Cl Tryz.prog 16 #[.agg (ovc o).toArray] w (RetA w (sX r c F err) K) := by
  obtain ⟨kd, ⟨ar, ac, aA, an, ak, al⟩, ⟨br, bc, bA, bn, bk, bl⟩, ⟨lA0, ln0, lk0, ll0⟩, ⟨kn, ⟨kA, km, kc, kl⟩⟩, on, om, pA, pn, pk, p, qA, qn, qk, q, sA, sn, sk, s⟩ := o
  dsimp only at ho
  subst ho
  refine enter Tryz.func16 rfl rfl rfl ?_
  have hF := Fr.refl w
  repeat' (first | (refine TL.isOp ?_; first | (refine TL.isCall ?_; refine TL.call rfl rfl ?_; first | (refine (hC _ hF.ext).mono ?_; rintro _ w1 ⟨⟨xr, xc, xA, xn, xk, xl⟩, rfl, hL, hE, hf⟩; have hfx := hf.mono hF.ext.size; replace hF := Fr.addLM hF hE hL hf; clear hE hf hL; refine Back.mk ?_)) | (refine TL.isBin ?_; refine TL.cmpG rfl rfl rfl rfl (fun hc => ?_) (fun hc => ?_) <;> (try (first | (exfalso; omega) | exact absurd rfl hc))) | (apply TL.ev; (case hd => rfl); (case h => (first | exact ev_simple rfl | (apply Ev.isLoad; first | exact ev_loadFr hF rfl (by refine ⟨?_, ?_⟩; (focus (repeat (first | exact InV.head | apply InV.tail))); rfl) | exact ev_loadAFr hF rfl (by refine ⟨?_, ?_⟩; (focus (repeat (first | exact InV.head | apply InV.tail))); rfl)) | exact ev_fieldAddr rfl))) | (refine TL.storeAFr hF rfl rfl rfl rfl (by refine ⟨?_, ?_⟩; (focus (repeat (first | apply SetV.head | apply SetV.tail))); rfl) rfl ?_; clear hF; intro ws hF) | (refine TL.storeFr hF rfl rfl rfl rfl (by refine ⟨?_, ?_⟩; (focus (repeat (first | apply SetV.head | apply SetV.tail))); rfl) rfl ?_; clear hF; intro ws hF) | (refine TL.boxAFr hF (d := 1) (cs := [.int .i64 14, .int .i64 ar, .int .i64 ac, .slice aA an ak, .int .i64 br, .int .i64 bc, .slice bA bn bk, .slice lA0 ln0 lk0, .bool kn, .slice kA km kc, .int .i64 on, .int .i64 om, .slice pA pn pk, .slice qA qn qk, .slice sA sn sk]) rfl rfl ?_; clear hF; intro w1 b1 hF) | (refine TL.allocFr hF (d := 2) rfl rfl ?_; clear hF; intro w2 b2 hF) | (refine TL.allocFr hF (d := 3) rfl rfl ?_; clear hF; intro w3 b3 hF)) | (refine T.is ?_; first | refine T.seq ?_ | refine T.region ?_ | refine T.block ?_ | refine T.cond_t rfl ?_ | refine T.cond_f rfl ?_ | refine T.ret ?_) | (refine G.is ?_; first | refine G.next ?_ | refine G.blockN ?_) | refine TL.nil ?_)
  exact G.retC1 rfl rfl (held_agg (hF.var (by repeat (first | exact InV.head | apply InV.tail))) rfl) ⟨⟨⟨xr, xc, xA, xn, xk, xl⟩, ⟨false, ⟨none, 0, 0, []⟩⟩, ⟨none, 0, 0, []⟩, none, 0, 0, [], none, 0, 0, [], false, err⟩, rfl, aok_x (Fr.lm hF (by repeat (first | exact memH | apply memT))), hF.ext, af_x hfx⟩
set_option maxRecDepth 100000 in
theorem plays15 (w : World) (o : OV) (ho : o.kind = 15) (z : Int) (err : Int) (K : Nat)
    (hC : ∀ w1, Ext w w1 → Cl Tryz.prog 49 #[.agg (mvc o.a).toArray] w1 (RetY w1 z err K)) : Cl Tryz.prog 16 #[.agg (ovc o).toArray] w (RetA w (sY z err) K) := by
  obtain ⟨kd, ⟨ar, ac, aA, an, ak, al⟩, ⟨br, bc, bA, bn, bk, bl⟩, ⟨lA0, ln0, lk0, ll0⟩, ⟨kn, ⟨kA, km, kc, kl⟩⟩, on, om, pA, pn, pk, p, qA, qn, qk, q, sA, sn, sk, s⟩ := o
  dsimp only at ho
  subst ho
  refine enter Tryz.func16 rfl rfl rfl ?_
  have hF := Fr.refl w
  repeat' (first | (refine TL.isOp ?_; first | (refine TL.isCall ?_; refine TL.call rfl rfl ?_; first | (refine (hC _ hF.ext).mono ?_; rintro _ w1 ⟨⟨yn, ⟨yA, ym, yc, yl⟩⟩, rfl, hL, hE, hK⟩; replace hF := Fr.addLI (hF.exts hE) hL; clear hE hL; refine Back.mk ?_)) | (refine TL.isBin ?_; refine TL.cmpG rfl rfl rfl rfl (fun hc => ?_) (fun hc => ?_) <;> (try (first | (exfalso; omega) | exact absurd rfl hc))) | (apply TL.ev; (case hd => rfl); (case h => (first | exact ev_simple rfl | (apply Ev.isLoad; first | exact ev_loadFr hF rfl (by refine ⟨?_, ?_⟩; (focus (repeat (first | exact InV.head | apply InV.tail))); rfl) | exact ev_loadAFr hF rfl (by refine ⟨?_, ?_⟩; (focus (repeat (first | exact InV.head | apply InV.tail))); rfl)) | exact ev_fieldAddr rfl))) | (refine TL.storeAFr hF rfl rfl rfl rfl (by refine ⟨?_, ?_⟩; (focus (repeat (first | apply SetV.head | apply SetV.tail))); rfl) rfl ?_; clear hF; intro ws hF) | (refine TL.storeFr hF rfl rfl rfl rfl (by refine ⟨?_, ?_⟩; (focus (repeat (first | apply SetV.head | apply SetV.tail))); rfl) rfl ?_; clear hF; intro ws hF) | (refine TL.boxAFr hF (d := 1) (cs := [.int .i64 15, .int .i64 ar, .int .i64 ac, .slice aA an ak, .int .i64 br, .int .i64 bc, .slice bA bn bk, .slice lA0 ln0 lk0, .bool kn, .slice kA km kc, .int .i64 on, .int .i64 om, .slice pA pn pk, .slice qA qn qk, .slice sA sn sk]) rfl rfl ?_; clear hF; intro w1 b1 hF) | (refine TL.allocFr hF (d := 2) rfl rfl ?_; clear hF; intro w2 b2 hF) | (refine TL.allocFr hF (d := 3) rfl rfl ?_; clear hF; intro w3 b3 hF)) | (refine T.is ?_; first | refine T.seq ?_ | refine T.region ?_ | refine T.block ?_ | refine T.cond_t rfl ?_ | refine T.cond_f rfl ?_ | refine T.ret ?_) | (refine G.is ?_; first | refine G.next ?_ | refine G.blockN ?_) | refine TL.nil ?_)
  exact G.retC1 rfl rfl (held_agg (hF.var (by repeat (first | exact InV.head | apply InV.tail))) rfl) ⟨⟨⟨0, 0, none, 0, 0, []⟩, ⟨yn, ⟨yA, ym, yc, yl⟩⟩, ⟨none, 0, 0, []⟩, none, 0, 0, [], none, 0, 0, [], false, err⟩, rfl, aok_y (Fr.li hF (by repeat (first | exact memH | apply memT))) hK, hF.ext, af_x mf_none⟩
set_option maxRecDepth 100000 in
theorem plays16 (w : World) (o : OV) (ho : o.kind = 16) (r c : Nat) (F : Nat → Nat → Int) (err : Int) (K : Nat)
    (hC : ∀ w1, Ext w w1 → Cl Tryz.prog 50 #[.agg (mvc o.a).toArray, .slice o.pA o.pn o.pk, .slice o.qA o.qn o.qk] w1 (RetX w1 r c F err K)) : Cl Tryz.prog 16 #[.agg (ovc o).toArray] w (RetA w (sX r c F err) K) := by
  obtain ⟨kd, ⟨ar, ac, aA, an, ak, al⟩, ⟨br, bc, bA, bn, bk, bl⟩, ⟨lA0, ln0, lk0, ll0⟩, ⟨kn, ⟨kA, km, kc, kl⟩⟩, on, om, pA, pn, pk, p, qA, qn, qk, q, sA, sn, sk, s⟩ := o
  dsimp only at ho
  subst ho
  refine enter Tryz.func16 rfl rfl rfl ?_
  have hF := Fr.refl w
  repeat' (first | (refine TL.isOp ?_; first | (refine TL.isCall ?_; refine TL.call rfl rfl ?_; first | (refine (hC _ hF.ext).mono ?_; rintro _ w1 ⟨⟨xr, xc, xA, xn, xk, xl⟩, rfl, hL, hE, hf⟩; have hfx := hf.mono hF.ext.size; replace hF := Fr.addLM hF hE hL hf; clear hE hf hL; refine Back.mk ?_)) | (refine TL.isBin ?_; refine TL.cmpG rfl rfl rfl rfl (fun hc => ?_) (fun hc => ?_) <;> (try (first | (exfalso; omega) | exact absurd rfl hc))) | (apply TL.ev; (case hd => rfl); (case h => (first | exact ev_simple rfl | (apply Ev.isLoad; first | exact ev_loadFr hF rfl (by refine ⟨?_, ?_⟩; (focus (repeat (first | exact InV.head | apply InV.tail))); rfl) | exact ev_loadAFr hF rfl (by refine ⟨?_, ?_⟩; (focus (repeat (first | exact InV.head | apply InV.tail))); rfl)) | exact ev_fieldAddr rfl))) | (refine TL.storeAFr hF rfl rfl rfl rfl (by refine ⟨?_, ?_⟩; (focus (repeat (first | apply SetV.head | apply SetV.tail))); rfl) rfl ?_; clear hF; intro ws hF) | (refine TL.storeFr hF rfl rfl rfl rfl (by refine ⟨?_, ?_⟩; (focus (repeat (first | apply SetV.head | apply SetV.tail))); rfl) rfl ?_; clear hF; intro ws hF) | (refine TL.boxAFr hF (d := 1) (cs := [.int .i64 16, .int .i64 ar, .int .i64 ac, .slice aA an ak, .int .i64 br, .int .i64 bc, .slice bA bn bk, .slice lA0 ln0 lk0, .bool kn, .slice kA km kc, .int .i64 on, .int .i64 om, .slice pA pn pk, .slice qA qn qk, .slice sA sn sk]) rfl rfl ?_; clear hF; intro w1 b1 hF) | (refine TL.allocFr hF (d := 2) rfl rfl ?_; clear hF; intro w2 b2 hF) | (refine TL.allocFr hF (d := 3) rfl rfl ?_; clear hF; intro w3 b3 hF)) | (refine T.is ?_; first | refine T.seq ?_ | refine T.region ?_ | refine T.block ?_ | refine T.cond_t rfl ?_ | refine T.cond_f rfl ?_ | refine T.ret ?_) | (refine G.is ?_; first | refine G.next ?_ | refine G.blockN ?_) | refine TL.nil ?_)
  exact G.retC1 rfl rfl (held_agg (hF.var (by repeat (first | exact InV.head | apply InV.tail))) rfl) ⟨⟨⟨xr, xc, xA, xn, xk, xl⟩, ⟨false, ⟨none, 0, 0, []⟩⟩, ⟨none, 0, 0, []⟩, none, 0, 0, [], none, 0, 0, [], false, err⟩, rfl, aok_x (Fr.lm hF (by repeat (first | exact memH | apply memT))), hF.ext, af_x hfx⟩
set_option maxRecDepth 100000 in
theorem plays17 (w : World) (o : OV) (ho : o.kind = 17) (r c : Nat) (F : Nat → Nat → Int) (err : Int) (K : Nat)
    (hC : ∀ w1, Ext w w1 → Cl Tryz.prog 51 #[.slice o.sA o.sn o.sk] w1 (RetX w1 r c F err K)) : Cl Tryz.prog 16 #[.agg (ovc o).toArray] w (RetA w (sX r c F err) K) := by
  obtain ⟨kd, ⟨ar, ac, aA, an, ak, al⟩, ⟨br, bc, bA, bn, bk, bl⟩, ⟨lA0, ln0, lk0, ll0⟩, ⟨kn, ⟨kA, km, kc, kl⟩⟩, on, om, pA, pn, pk, p, qA, qn, qk, q, sA, sn, sk, s⟩ := o
  dsimp only at ho
  subst ho
  refine enter Tryz.func16 rfl rfl rfl ?_
  have hF := Fr.refl w
  repeat' (first | (refine TL.isOp ?_; first | (refine TL.isCall ?_; refine TL.call rfl rfl ?_; first | (refine (hC _ hF.ext).mono ?_; rintro _ w1 ⟨⟨xr, xc, xA, xn, xk, xl⟩, rfl, hL, hE, hf⟩; have hfx := hf.mono hF.ext.size; replace hF := Fr.addLM hF hE hL hf; clear hE hf hL; refine Back.mk ?_)) | (refine TL.isBin ?_; refine TL.cmpG rfl rfl rfl rfl (fun hc => ?_) (fun hc => ?_) <;> (try (first | (exfalso; omega) | exact absurd rfl hc))) | (apply TL.ev; (case hd => rfl); (case h => (first | exact ev_simple rfl | (apply Ev.isLoad; first | exact ev_loadFr hF rfl (by refine ⟨?_, ?_⟩; (focus (repeat (first | exact InV.head | apply InV.tail))); rfl) | exact ev_loadAFr hF rfl (by refine ⟨?_, ?_⟩; (focus (repeat (first | exact InV.head | apply InV.tail))); rfl)) | exact ev_fieldAddr rfl))) | (refine TL.storeAFr hF rfl rfl rfl rfl (by refine ⟨?_, ?_⟩; (focus (repeat (first | apply SetV.head | apply SetV.tail))); rfl) rfl ?_; clear hF; intro ws hF) | (refine TL.storeFr hF rfl rfl rfl rfl (by refine ⟨?_, ?_⟩; (focus (repeat (first | apply SetV.head | apply SetV.tail))); rfl) rfl ?_; clear hF; intro ws hF) | (refine TL.boxAFr hF (d := 1) (cs := [.int .i64 17, .int .i64 ar, .int .i64 ac, .slice aA an ak, .int .i64 br, .int .i64 bc, .slice bA bn bk, .slice lA0 ln0 lk0, .bool kn, .slice kA km kc, .int .i64 on, .int .i64 om, .slice pA pn pk, .slice qA qn qk, .slice sA sn sk]) rfl rfl ?_; clear hF; intro w1 b1 hF) | (refine TL.allocFr hF (d := 2) rfl rfl ?_; clear hF; intro w2 b2 hF) | (refine TL.allocFr hF (d := 3) rfl rfl ?_; clear hF; intro w3 b3 hF)) | (refine T.is ?_; first | refine T.seq ?_ | refine T.region ?_ | refine T.block ?_ | refine T.cond_t rfl ?_ | refine T.cond_f rfl ?_ | refine T.ret ?_) | (refine G.is ?_; first | refine G.next ?_ | refine G.blockN ?_) | refine TL.nil ?_)
  exact G.retC1 rfl rfl (held_agg (hF.var (by repeat (first | exact InV.head | apply InV.tail))) rfl) ⟨⟨⟨xr, xc, xA, xn, xk, xl⟩, ⟨false, ⟨none, 0, 0, []⟩⟩, ⟨none, 0, 0, []⟩, none, 0, 0, [], none, 0, 0, [], false, err⟩, rfl, aok_x (Fr.lm hF (by repeat (first | exact memH | apply memT))), hF.ext, af_x hfx⟩
set_option maxRecDepth 100000 in
theorem plays18 (w : World) (o : OV) (ho : o.kind = 18) (r c : Nat) (F : Nat → Nat → Int) (err : Int) (K : Nat)
    (hC : ∀ w1, Ext w w1 → Cl Tryz.prog 52 #[.slice o.sA o.sn o.sk] w1 (RetX w1 r c F err K)) : Cl Tryz.prog 16 #[.agg (ovc o).toArray] w (RetA w (sX r c F err) K) := by
  obtain ⟨kd, ⟨ar, ac, aA, an, ak, al⟩, ⟨br, bc, bA, bn, bk, bl⟩, ⟨lA0, ln0, lk0, ll0⟩, ⟨kn, ⟨kA, km, kc, kl⟩⟩, on, om, pA, pn, pk, p, qA, qn, qk, q, sA, sn, sk, s⟩ := o
  dsimp only at ho
  subst ho
  refine enter Tryz.func16 rfl rfl rfl ?_
  have hF := Fr.refl w
  repeat' (first | (refine TL.isOp ?_; first | (refine TL.isCall ?_; refine TL.call rfl rfl ?_; first | (refine (hC _ hF.ext).mono ?_; rintro _ w1 ⟨⟨xr, xc, xA, xn, xk, xl⟩, rfl, hL, hE, hf⟩; have hfx := hf.mono hF.ext.size; replace hF := Fr.addLM hF hE hL hf; clear hE hf hL; refine Back.mk ?_)) | (refine TL.isBin ?_; refine TL.cmpG rfl rfl rfl rfl (fun hc => ?_) (fun hc => ?_) <;> (try (first | (exfalso; omega) | exact absurd rfl hc))) | (apply TL.ev; (case hd => rfl); (case h => (first | exact ev_simple rfl | (apply Ev.isLoad; first | exact ev_loadFr hF rfl (by refine ⟨?_, ?_⟩; (focus (repeat (first | exact InV.head | apply InV.tail))); rfl) | exact ev_loadAFr hF rfl (by refine ⟨?_, ?_⟩; (focus (repeat (first | exact InV.head | apply InV.tail))); rfl)) | exact ev_fieldAddr rfl))) | (refine TL.storeAFr hF rfl rfl rfl rfl (by refine ⟨?_, ?_⟩; (focus (repeat (first | apply SetV.head | apply SetV.tail))); rfl) rfl ?_; clear hF; intro ws hF) | (refine TL.storeFr hF rfl rfl rfl rfl (by refine ⟨?_, ?_⟩; (focus (repeat (first | apply SetV.head | apply SetV.tail))); rfl) rfl ?_; clear hF; intro ws hF) | (refine TL.boxAFr hF (d := 1) (cs := [.int .i64 18, .int .i64 ar, .int .i64 ac, .slice aA an ak, .int .i64 br, .int .i64 bc, .slice bA bn bk, .slice lA0 ln0 lk0, .bool kn, .slice kA km kc, .int .i64 on, .int .i64 om, .slice pA pn pk, .slice qA qn qk, .slice sA sn sk]) rfl rfl ?_; clear hF; intro w1 b1 hF) | (refine TL.allocFr hF (d := 2) rfl rfl ?_; clear hF; intro w2 b2 hF) | (refine TL.allocFr hF (d := 3) rfl rfl ?_; clear hF; intro w3 b3 hF)) | (refine T.is ?_; first | refine T.seq ?_ | refine T.region ?_ | refine T.block ?_ | refine T.cond_t rfl ?_ | refine T.cond_f rfl ?_ | refine T.ret ?_) | (refine G.is ?_; first | refine G.next ?_ | refine G.blockN ?_) | refine TL.nil ?_)
  exact G.retC1 rfl rfl (held_agg (hF.var (by repeat (first | exact InV.head | apply InV.tail))) rfl) ⟨⟨⟨xr, xc, xA, xn, xk, xl⟩, ⟨false, ⟨none, 0, 0, []⟩⟩, ⟨none, 0, 0, []⟩, none, 0, 0, [], none, 0, 0, [], false, err⟩, rfl, aok_x (Fr.lm hF (by repeat (first | exact memH | apply memT))), hF.ext, af_x hfx⟩
set_option maxRecDepth 100000 in
theorem plays19 (w : World) (o : OV) (ho : o.kind = 19) (r c : Nat) (F : Nat → Nat → Int) (err : Int) (K : Nat)
    (hC : ∀ w1, Ext w w1 → Cl Tryz.prog 53 #[.agg (mvc o.a).toArray, .agg (mvc o.b).toArray] w1 (RetX w1 r c F err K)) : Cl Tryz.prog 16 #[.agg (ovc o).toArray] w (RetA w (sX r c F err) K) := by
  obtain ⟨kd, ⟨ar, ac, aA, an, ak, al⟩, ⟨br, bc, bA, bn, bk, bl⟩, ⟨lA0, ln0, lk0, ll0⟩, ⟨kn, ⟨kA, km, kc, kl⟩⟩, on, om, pA, pn, pk, p, qA, qn, qk, q, sA, sn, sk, s⟩ := o
  dsimp only at ho
  subst ho
  refine enter Tryz.func16 rfl rfl rfl ?_
  have hF := Fr.refl w
  repeat' (first | (refine TL.isOp ?_; first | (refine TL.isCall ?_; refine TL.call rfl rfl ?_; first | (refine (hC _ hF.ext).mono ?_; rintro _ w1 ⟨⟨xr, xc, xA, xn, xk, xl⟩, rfl, hL, hE, hf⟩; have hfx := hf.mono hF.ext.size; replace hF := Fr.addLM hF hE hL hf; clear hE hf hL; refine Back.mk ?_)) | (refine TL.isBin ?_; refine TL.cmpG rfl rfl rfl rfl (fun hc => ?_) (fun hc => ?_) <;> (try (first | (exfalso; omega) | exact absurd rfl hc))) | (apply TL.ev; (case hd => rfl); (case h => (first | exact ev_simple rfl | (apply Ev.isLoad; first | exact ev_loadFr hF rfl (by refine ⟨?_, ?_⟩; (focus (repeat (first | exact InV.head | apply InV.tail))); rfl) | exact ev_loadAFr hF rfl (by refine ⟨?_, ?_⟩; (focus (repeat (first | exact InV.head | apply InV.tail))); rfl)) | exact ev_fieldAddr rfl))) | (refine TL.storeAFr hF rfl rfl rfl rfl (by refine ⟨?_, ?_⟩; (focus (repeat (first | apply SetV.head | apply SetV.tail))); rfl) rfl ?_; clear hF; intro ws hF) | (refine TL.storeFr hF rfl rfl rfl rfl (by refine ⟨?_, ?_⟩; (focus (repeat (first | apply SetV.head | apply SetV.tail))); rfl) rfl ?_; clear hF; intro ws hF) | (refine TL.boxAFr hF (d := 1) (cs := [.int .i64 19, .int .i64 ar, .int .i64 ac, .slice aA an ak, .int .i64 br, .int .i64 bc, .slice bA bn bk, .slice lA0 ln0 lk0, .bool kn, .slice kA km kc, .int .i64 on, .int .i64 om, .slice pA pn pk, .slice qA qn qk, .slice sA sn sk]) rfl rfl ?_; clear hF; intro w1 b1 hF) | (refine TL.allocFr hF (d := 2) rfl rfl ?_; clear hF; intro w2 b2 hF) | (refine TL.allocFr hF (d := 3) rfl rfl ?_; clear hF; intro w3 b3 hF)) | (refine T.is ?_; first | refine T.seq ?_ | refine T.region ?_ | refine T.block ?_ | refine T.cond_t rfl ?_ | refine T.cond_f rfl ?_ | refine T.ret ?_) | (refine G.is ?_; first | refine G.next ?_ | refine G.blockN ?_) | refine TL.nil ?_)
  exact G.retC1 rfl rfl (held_agg (hF.var (by repeat (first | exact InV.head | apply InV.tail))) rfl) ⟨⟨⟨xr, xc, xA, xn, xk, xl⟩, ⟨false, ⟨none, 0, 0, []⟩⟩, ⟨none, 0, 0, []⟩, none, 0, 0, [], none, 0, 0, [], false, err⟩, rfl, aok_x (Fr.lm hF (by repeat (first | exact memH | apply memT))), hF.ext, af_x hfx⟩
end Go.Proofs.YtlhmehikajidhaaGreat
namespace Go.Eng
open Go Go.RowKit
section
variable {P : Program} {N : Fm} {Q : Exit → Act → World → Prop} {σ : Store} {S : Nat → Prop} {w0 w : World} {L : List VB} {D : List DP} {ops : Array Oper} {d : Nat} {t : TypeId} {pos : String} {af : Array Edge} {rest : List Oper}
theorem TL.appendNewFr (hF : Fr w0 w L D S) {α : Type} (f : α → List Value) {x y : Operand} {ty e : TypeId} [hT : USlice P ty e] {v0 : Value} {z : List Value} {sz b1 : Nat} [hS : USize P e v0 sz b1] (hzv : v0.cells = z.toArray) {a : Addr} {m c' B : Nat} {l' : List α}
    (hx : look σ x = some (.slice none 0 0)) (hy : look σ y = some (.slice (some a) m c')) (hd : Nat.blt d N.n = true) (hs : Sm sz f w.heap B (some a) m c' l') (h1 : ∀ u, (f u).all (·.oneCell') = true) (hzl : Nat.beq z.length sz = true) (hzn : z.all noU64 = true)
    (hroom : m * b1 ≤ 140737488355328 ∧ m ≤ 4611686018427387904)
    (K0 : m = 0 → TL P N .seq ops Q rest ((d, .slice none 0 0) :: σ) w)
    (K : 0 < m → ∀ w' b c2 zs, m ≤ c2 → zs.length = (c2 - m) * sz → zs.all noU64 = true → Fr w0 w' (⟨b, e, l'.flatMap f ++ zs⟩ :: L) D S → TL P N .seq ops Q rest ((d, .slice (some ⟨b, 0, none⟩) m c2) :: σ) w') :
    TL P N .seq ops Q (⟨some d, .call { callee := .builtin .append, args := #[x, y], argTypes := #[ty, ty] }, t, pos, af, none⟩ :: rest) σ w := by
  obtain ⟨i, hi, hz0, hsz, hby⟩ := hS.info
  have hl' := hs.len
  have hzl' := Nat.eq_of_beq_eq_true hzl
  rcases Nat.eq_zero_or_pos m with h0 | h0
  · subst h0
    refine TL.op (fun ρ hρ => ?_) hd (K0 rfl)
    have : (Builtin.append_ #[ty, ty] t #[.slice none 0 0, .slice (some a) 0 c']).run P w = .ok (.slice none 0 0) w := by
      simp [Builtin.append_, run_underlying hT.out, sizeOf, typeInfo, hi, Builtin.lenOf, Builtin.firstCells, loadCells, loadCellsFrom]
    simp [execOp, resolve, invoke, builtin, hρ x _ hx, hρ y _ hy, this]
  · rcases hs.mem with h | ⟨b, o, hab, _, _⟩
    · omega
    cases hab
    have hlf := flatMap_len hs.wid
    have hr := run_append_nil (P := P) w ty t e i v0 hT.out hi hz0 ⟨b, o, none⟩ m c' (l'.flatMap f) (by rw [hlf, hl', hsz]) (sm_cells hs rfl) h0 (by omega) (by rw [hby]; omega)
    have hge := grownCap_ge w m 0 e
    have hV : Vr (w.drew.alloc (.cells ((l'.flatMap f).toArray ++ Builtin.zeroCells z.toArray (grownCap w m 0 e - m)) e)).heap w.heap.size e (l'.flatMap f ++ (Builtin.zeroCells z.toArray (grownCap w m 0 e - m)).toList) := by
      unfold Vr
      have := heap_alloc w.drew (.cells ((l'.flatMap f).toArray ++ Builtin.zeroCells z.toArray (grownCap w m 0 e - m)) e)
      rw [show w.drew.heap.size = w.heap.size from rfl] at this
      rw [this]
      congr 2
      apply Array.ext'
      simp
    have hE : Ext w (w.drew.alloc (.cells ((l'.flatMap f).toArray ++ Builtin.zeroCells z.toArray (grownCap w m 0 e - m)) e)) := Ext.trans (ext_drewN w 1) (ext_alloc _ _)
    refine TL.op (fun ρ hρ => ?_) hd (K h0 _ _ _ _ hge (by rw [Array.length_toList, size_zeroCells, List.size_toArray, hzl']) (zero_noU hzn _) (hF.new rfl hV hE))
    rw [hzv] at hr
    simp [execOp, resolve, invoke, builtin, hρ x _ hx, hρ y _ hy, hr]
theorem TL.appendAtFr {α : Type} {f : α → List Value} {g n c : Nat} {e : TypeId} {l : List α} {zs : List Value} {L' : List VB} (hF : Fr w0 w L D S) {x y : Operand} {ty : TypeId} [hT : USlice P ty e] {v0 : Value} {z : List Value} {sz b1 : Nat} [hS : USize P e v0 sz b1] (hzv : v0.cells = z.toArray) {a : Addr} {m c' B : Nat} {l' : List α}
    (hx : look σ x = some (.slice (some ⟨g, 0, none⟩) n c)) (hy : look σ y = some (.slice (some a) m c')) (hd : Nat.blt d N.n = true) (hs : Sm sz f w.heap B (some a) m c' l') (h1 : ∀ u, (f u).all (·.oneCell') = true) (hw : ∀ u, (f u).length = sz) (hzl : Nat.beq z.length sz = true) (hzn : z.all noU64 = true)
    (hl : l.length = n) (hzs : zs.length = (c - n) * sz) (hnc : n ≤ c) (hno : (l.flatMap f ++ zs).all noU64 = true)
    (hroom : (n + m) * b1 ≤ 140737488355328 ∧ n + m ≤ 4611686018427387904)
    (hL : SetV L g e (l.flatMap f ++ zs) ((l ++ l').flatMap f ++ zs.drop (m * sz)) L')
    (K1 : n + m ≤ c → ∀ w', Fr w0 w' L' D S → TL P N .seq ops Q rest ((d, .slice (some ⟨g, 0, none⟩) (n + m) c) :: σ) w')
    (K2 : c < n + m → ∀ w' b c2 zs', n + m ≤ c2 → zs'.length = (c2 - (n + m)) * sz → zs'.all noU64 = true → Fr w0 w' (⟨b, e, (l ++ l').flatMap f ++ zs'⟩ :: L) D S → TL P N .seq ops Q rest ((d, .slice (some ⟨b, 0, none⟩) (n + m) c2) :: σ) w') :
    TL P N .seq ops Q (⟨some d, .call { callee := .builtin .append, args := #[x, y], argTypes := #[ty, ty] }, t, pos, af, none⟩ :: rest) σ w := by
  obtain ⟨i, hi, hz0, hsz, hby⟩ := hS.info
  have hl' := hs.len
  have hzl' := Nat.eq_of_beq_eq_true hzl
  have hlf : (l.flatMap f).length = n * sz := by rw [flatMap_len (fun x _ => hw x), hl]
  have hlf' : (l'.flatMap f).length = m * sz := by rw [flatMap_len hs.wid, hl']
  have hV := hF.var hL.inV
  obtain ⟨b0, o0, hab⟩ : ∃ b0 o0, (a = ⟨b0, o0, none⟩ ∨ m = 0) := by
    rcases hs.mem with h | ⟨b, o, h, _⟩
    · exact ⟨0, 0, .inr h⟩
    · cases h; exact ⟨b, o, .inl rfl⟩
  have hnews : ∀ j v, (l'.flatMap f)[j]? = some v → w.cell? (a.add j) = some v := by
    rcases hab with rfl | h
    · exact sm_cells hs rfl
    · intro j v hv
      have := (List.getElem?_eq_some_iff.1 hv).1
      rw [hlf', h, Nat.zero_mul] at this; omega
  have holds : ∀ j v, (l.flatMap f)[j]? = some v → w.cell? ((⟨g, 0, none⟩ : Addr).add j) = some v := fun j v hv => by
    rw [add_mk, cell_of_hcell, Nat.zero_add, hV.cell, List.getElem?_append_left (List.getElem?_eq_some_iff.1 hv).1]; exact hv
  have h1' : ∀ u ∈ l'.flatMap f, u.oneCell' = true := fun u hu => by
    obtain ⟨q, _, hq⟩ := List.mem_flatMap.1 hu
    exact List.all_eq_true.1 (h1 q) u hq
  rcases Nat.lt_or_ge c (n + m) with hcm | hcm
  · have hr := run_append_grow (P := P) w ty t e i v0 hT.out hi hz0 ⟨g, 0, none⟩ n c (l.flatMap f) (by rw [hlf, hsz]) holds a m c' (l'.flatMap f) (by rw [hlf', hsz]) hnews (by omega) (by omega) (growslice_fits (by omega) (by rw [hby]; exact hroom.1))
    have hge := grownCap_ge w (n + m) c e
    have hV2 : Vr (w.drew.alloc (.cells ((l.flatMap f).toArray ++ (l'.flatMap f).toArray ++ Builtin.zeroCells z.toArray (grownCap w (n + m) c e - (n + m))) e)).heap w.heap.size e ((l ++ l').flatMap f ++ (Builtin.zeroCells z.toArray (grownCap w (n + m) c e - (n + m))).toList) := by
      unfold Vr
      have := heap_alloc w.drew (.cells ((l.flatMap f).toArray ++ (l'.flatMap f).toArray ++ Builtin.zeroCells z.toArray (grownCap w (n + m) c e - (n + m))) e)
      rw [show w.drew.heap.size = w.heap.size from rfl] at this
      rw [this]
      congr 2
      apply Array.ext'
      simp
    have hE : Ext w (w.drew.alloc (.cells ((l.flatMap f).toArray ++ (l'.flatMap f).toArray ++ Builtin.zeroCells z.toArray (grownCap w (n + m) c e - (n + m))) e)) := Ext.trans (ext_drewN w 1) (ext_alloc _ _)
    refine TL.op (fun ρ hρ => ?_) hd (K2 hcm _ _ _ _ hge (by rw [Array.length_toList, size_zeroCells, List.size_toArray, hzl']) (zero_noU hzn _) (hF.new rfl hV2 hE))
    rw [hzv] at hr
    simp [execOp, resolve, invoke, builtin, hρ x _ hx, hρ y _ hy, hr]
  · have hms : m * sz ≤ (c - n) * sz := Nat.mul_le_mul_right _ (by omega)
    have hr := run_append_room (P := P) w ty t e i hT.out hi g n c (l.flatMap f ++ zs).toArray hV a m c' (l'.flatMap f) (by rw [hlf', hsz]) hnews h1' hcm (by simp [hlf, hlf', hsz, hzs]; omega)
    have e1 : List.take (n * sz) (l.flatMap f ++ zs) = l.flatMap f := by rw [← hlf, List.take_left]
    have e2 : List.drop (n * sz + (l'.flatMap f).length) (l.flatMap f ++ zs) = zs.drop (m * sz) := by rw [← hlf, hlf', List.drop_append, List.drop_of_length_le (by omega)]; simp
    refine TL.op (w' := w.setRow g ((l.flatMap f) ++ l'.flatMap f ++ zs.drop (m * sz)).toArray) (fun ρ hρ => ?_) hd (K1 hcm _ (hF.store hL hno (upd_setRow _ _ _) ?_))
    · simp only [execOp, resolve, invoke, builtin, Sem.run_bind, Sem.run_pure, Result.andThen_ok, List.map_toArray, List.map_cons, List.map_nil, hρ x _ hx, hρ y _ hy]
      rw [hr]
      simp only [Result.andThen_ok, Sem.run_pure, hsz]
      rw [e1, e2]
    · unfold Vr at hV ⊢
      rw [setRow_heap w g _ _ e _ hV, List.flatMap_append]
theorem TL.build1Fr (hF : Fr w0 w L D S) {α : Type} {f : α → Value} (hfc : ∀ u, (f u).cells = #[f u]) {x : Operand} {ty e : TypeId} [hT : USlice P ty e] {z : Value} {b1 : Nat} [hS : USize P e z 1 b1] (hzc : z.cells = #[z]) {u : α} (hx : look σ x = some (f u)) (hd : Nat.blt d N.n = true)
    (K : ∀ w' b, w.heap.size ≤ b → Fr w0 w' L D S → Sm 1 (fun u => [f u]) w'.heap w'.heap.size (some ⟨b, 0, none⟩) 1 1 [u] → Ext w w' → TL P N .seq ops Q rest ((d, .slice (some ⟨b, 0, none⟩) 1 1) :: σ) w') :
    TL P N .seq ops Q (⟨some d, .buildSlice ty 1 #[(0, x)], t, pos, af, none⟩ :: rest) σ w :=
  TL.build1 hfc hzc hx hd fun w' b hb hB hE _ => by
    have hV : Vr w'.heap b e ([u].flatMap (fun u => [f u]) ++ []) := by unfold Bk at hB; unfold Vr; simpa using hB
    exact K w' b (by omega) (hF.exts hE) (vr_sm (by omega) (fun _ _ => rfl) hV rfl (Nat.le_refl _) hV.lt) hE
end
section
variable {S : Nat → Prop} {w0 w w' : World} {L : List VB} {D : List DP} {b : Nat} {t : TypeId} {cs : List Value}
theorem Fr.newGe (h : Fr w0 w L D S) (hb : w.heap.size ≤ b) (hV : Vr w'.heap b t cs) (hE : Ext w w') : Fr w0 w' (⟨b, t, cs⟩ :: L) D S := by
  have h1 := h.exts hE
  refine ⟨h1.exs, fun v hv => ?_, List.pairwise_cons.2 ⟨fun v hv e => ?_, h.dist⟩, h1.data, fun v hv d hd => ?_⟩
  · rcases List.mem_cons.1 hv with rfl | hv
    · exact ⟨.inl (Nat.le_trans h.exs.size hb), hV⟩
    · exact h1.vars v hv
  · have := (h.vars v hv).2.lt
    simp only at e
    omega
  · rcases List.mem_cons.1 hv with rfl | hv
    · intro hk
      have := d.lt _ _ (h.data d hd) hk
      simp only at this
      omega
    · exact h.apart v hv d hd
end
section
variable {P : Program} {n : Nat} {σ : Store} {w : World} {fn : Func} {R : Ending → World → Prop}
theorem Held.cx {ty : TypeId} {b B : Nat} {e : TypeId} {cs : List Value} [hA : UAgg P ty] {z : Value} {sz b1 : Nat} [hS : USize P ty z sz b1] {w' : World} (hV : Vr w.heap b e cs) (hl : Nat.beq cs.length sz = true) (hc : Cx B w w') : Held P ty w' b (.agg cs.toArray) :=
  held_agg (e := e) (by unfold Vr at hV ⊢; exact (hc.cells _ _ hV rfl).trans hV) hl
theorem G.retKC1 {r D : Nat} {ty : TypeId} {b : Nat} {v : Value} (hr : fn.results = #[.cell r ty]) (hp : look1 σ r = some (.pointer (some ⟨b, 0, none⟩))) (hD : w.heap[D]? = some (.deferred (some []))) (hH : Held P ty (w.putObj D (.deferred none)) b v) (h : R (.returned v) (w.putObj D (.deferred none))) : G ⟨n, [markOf D]⟩ .ret (bodyPostM Fence.wide 0 P fn R) σ w := by
  unfold G
  intro a ha
  have hd := ha.nodef
  simp only [bodyPostM, hd]
  exact leavesM_mark hD (results_c1 hr (ha.get r _ hp) hH) h
end
class UFunc (P : Program) (t : TypeId) : Prop where
  out : ∃ a b c, P.underlying t = some (.func a b c)
section
variable {P : Program} {σ : Store} {H : Array Obj} {d : Option Tmp} {t : TypeId} {pos : String} {af : Array Edge} {gd : Option (Nat × Bool)}
theorem run_eql_fn {P : Program} {t : TypeId} [hT : UFunc P t] (f : Fn) (x y : Array Value) (w : World) : (Op.equal t (.func f x y) .nilFunc).run P w = .ok false w := by
  obtain ⟨a, b, c, h⟩ := hT.out
  have h1 : ∀ n : Nat, (Op.equalIn (n + 1) t (.func f x y) .nilFunc).run P w = .ok false w := fun n => by simp [Op.equalIn, run_underlying h]
  simp [Op.equal, Op.maxDepth, h1 9999]
theorem ev_eqlFn {x y : Operand} {tx ty : TypeId} [hT : UFunc P tx] {f : Fn} {p q : Array Value} (hx : look σ x = some (.func f p q)) (hy : look σ y = some .nilFunc) : Ev P σ H ⟨d, .binOp .eql tx x y ty, t, pos, af, gd⟩ (.bool false) := by
  unfold Ev
  intro ρ w hρ _
  have he : (eqGuard .eql tx x y (.func f p q) .nilFunc).run P w = .ok () w := by unfold eqGuard; simp
  simp [execOp, hρ x _ hx, hρ y _ hy, he, binOp, run_eql_fn]
end
end Go.Eng
namespace Go.Proofs.YtlhmehikajidhaaGreat
open Go Go.Eng Go.Proofs Go.NatM Go.RowKit
instance : UFunc Tryz.prog 79 := ⟨⟨_, _, _, Tryz.underlying79⟩⟩
theorem G.round {N : Fm} {σ : Store} {I : World → Prop} {Ix : Code → World → Prop} {W w : World} (hK : KeepsOthers W w) (h : I w) : G N .normal (RPost I Ix W) σ w := by
  unfold G; exact fun a ha => ⟨hK, h⟩
def RwK (i : Nat) (l : List LV) (c : Nat) (F : Nat → Nat → Int) (K : Nat) (H : Array Obj) : Prop := ∀ q, q < i → (l.getD q default).n = c ∧ LL H (l.getD q default).A c (l.getD q default).k (l.getD q default).l (F q) K
def dpRw (i : Nat) (l : List LV) (c : Nat) (F : Nat → Nat → Int) (K : Nat) : DP := ⟨RwK i l c F K, fun k => ∃ q, q < i ∧ fpA (l.getD q default).A c k,
  fun _ _ h ⟨q, hq, hk⟩ => (h q hq).2.s.fp_lt hk, fun _ _ hd h q hq => ⟨(h q hq).1, (h q hq).2.de (hd.mono fun k hk => ⟨q, hq, hk⟩)⟩⟩
section
variable {S : Nat → Prop} {w0 w w' : World} {L : List VB} {D : List DP}
theorem Fr.rw0 (h : Fr w0 w L D S) (l : List LV) (c : Nat) (F : Nat → Nat → Int) (K : Nat) : Fr w0 w L (dpRw 0 l c F K :: D) S := h.add _ (fun q hq => absurd hq (Nat.not_lt_zero _)) fun _ _ ⟨q, hq, _⟩ => absurd hq (Nat.not_lt_zero _)
theorem Fr.rws (h : Fr w0 w L D S) {i : Nat} {l : List LV} {c : Nat} {F : Nat → Nat → Int} {K : Nat} (hm : dpRw i l c F K ∈ D) : RwK i l c F K w.heap := h.data _ hm
theorem getD_snoc_eq {α : Type} [Inhabited α] {l : List α} {i : Nat} {x : α} (hi : l.length = i) : (l ++ [x]).getD i default = x := by subst hi; simp [List.getD]
theorem getD_snoc_lt {α : Type} [Inhabited α] {l : List α} {i q : Nat} {x : α} (hi : l.length = i) (h : q < i) : (l ++ [x]).getD q default = l.getD q default := by
  simp only [List.getD]; rw [List.getElem?_append_left (by omega)]
theorem Fr.rwAdd (h : Fr w0 w L D S) {i : Nat} {l : List LV} {c : Nat} {F : Nat → Nat → Int} {K : Nat} {A : Option Addr} {k : Nat} {ll : List IV} (hl : l.length = i) (hm : dpRw i l c F K ∈ D) (hx : dpLL A c k ll (F i) K ∈ D) : Fr w0 w L (dpRw (i + 1) (l ++ [⟨A, c, k, ll⟩]) c F K :: D) S := by
  refine h.add _ (fun q hq => ?_) fun v hv hfp => ?_
  · by_cases e : q = i
    · subst e
      rw [getD_snoc_eq hl]; exact ⟨rfl, Fr.ll h hx⟩
    · rw [getD_snoc_lt hl (by omega)]; exact Fr.rws h hm q (by omega)
  · obtain ⟨q, hq, hk⟩ := hfp
    by_cases e : q = i
    · subst e
      rw [getD_snoc_eq hl] at hk
      refine h.apart v hv _ hx ?_
      unfold dpLL; exact hk
    · rw [getD_snoc_lt hl (by omega)] at hk
      exact h.apart v hv _ hm ⟨q, by omega, hk⟩
theorem Fr.addBoxLM (h : Fr w0 w L D S) (hE : Ext w w') {b : Nat} {t : TypeId} {cs : List Value} {x : MV} {r c K : Nat} {F : Nat → Nat → Int} (hb : w.heap.size ≤ b) (hV : Vr w'.heap b t cs) (hc : cs.all flagless = true) (g : LM w'.heap x r c F K) (hf : MF w x) : Fr w0 w' (⟨b, t, cs⟩ :: L) (dpLM x r c F K :: D) S := by
  refine (h.newGe hb hV hE).add _ (by unfold dpLM; exact g) fun v hv hk => ?_
  have hk' : fpA x.A x.n v.b := by unfold dpLM at hk; exact hk
  rcases List.mem_cons.1 hv with rfl | hv
  · exact g.s.fp_flag hk' hV hc
  · have h1 := (h.vars v hv).2.lt
    have h2 := mf_fp hf _ hk'
    omega
end
attribute [irreducible] dpRw
theorem vr_sl1 {α : Type} {f : α → Value} {H : Array Obj} {b B n c : Nat} {t : TypeId} {l : List α} {zs : List Value} (hV : Vr H b t (l.flatMap (fun x => [f x]) ++ zs)) (hn : l.length = n) (hc : n ≤ c) (hb : b < B) : Sl f H B (some ⟨b, 0, none⟩) n c l := by
  have h := vr_sm (f := fun x => [f x]) (k := 1) (by omega) (fun _ _ => rfl) hV hn hc hb
  refine ⟨hn, hc, h.mem.imp id ?_⟩
  rintro ⟨b', o, e, hlt, hm⟩
  refine ⟨b', o, e, hlt, fun j x hx => ?_⟩
  have := hm j x hx 0 (f x) rfl
  simpa using this
def PlS (w w' : World) (bm b3 b2 : Nat) (A : Option Addr) (k : Nat) (l : List IV) (r c : Nat) (F : Nat → Nat → Int) (K i : Nat) : Prop :=
  ∃ (nl : List Int) (rl : List LV), nl.length = i ∧ rl.length = i ∧ (∀ q, q < i → nl.getD q 0 = (q : Int) ∧ ∀ k, fpA (rl.getD q default).A c k → w.heap.size ≤ k) ∧
  ((i = 0 ∧ Fr w w' [⟨bm, 27, [.int .i64 (r : Int), .int .i64 (c : Int), .slice A (r * c) k]⟩, ⟨b3, 51, [.int .i64 0, .int .i64 0, .slice none 0 0, .bool false, .slice none 0 0, .slice none 0 0, .slice none 0 0, .slice none 0 0, .bool false, .int .i64 0]⟩, ⟨b2, 51, [.int .i64 0, .int .i64 0, .slice none 0 0, .bool false, .slice none 0 0, .slice none 0 0, .slice none 0 0, .slice none 0 0, .bool false, .int .i64 0]⟩] [dpRw 0 rl c F K, dpLM ⟨r, c, A, r * c, k, l⟩ r c F K]) ∨
   ∃ gN kN zN gR kR zR, i ≤ kN ∧ zN.length = (kN - i) * 1 ∧ zN.all noU64 = true ∧ i ≤ kR ∧ zR.length = (kR - i) * 1 ∧ zR.all noU64 = true ∧ w.heap.size ≤ gN ∧ w.heap.size ≤ gR ∧
    Fr w w' [⟨gR, 25, rl.flatMap lvc ++ zR⟩, ⟨gN, 3, nl.flatMap (fun x => [i64v x]) ++ zN⟩, ⟨bm, 27, [.int .i64 (r : Int), .int .i64 (c : Int), .slice A (r * c) k]⟩, ⟨b3, 51, [.int .i64 0, .int .i64 0, .slice none 0 0, .bool false, .slice none 0 0, .slice none 0 0, .slice (some ⟨gR, 0, none⟩) i kR, .slice (some ⟨gN, 0, none⟩) i kN, .bool false, .int .i64 0]⟩, ⟨b2, 51, [.int .i64 0, .int .i64 0, .slice none 0 0, .bool false, .slice none 0 0, .slice none 0 0, .slice none 0 0, .slice none 0 0, .bool false, .int .i64 0]⟩] [dpRw i rl c F K, dpLM ⟨r, c, A, r * c, k, l⟩ r c F K])
theorem PlS.cx {w w' W : World} {bm b3 b2 : Nat} {A : Option Addr} {k : Nat} {l : List IV} {r c : Nat} {F : Nat → Nat → Int} {K i B : Nat} (h : PlS w w' bm b3 b2 A k l r c F K i) (hc : Cx B w' W) (hB : w.heap.size ≤ B) : PlS w W bm b3 b2 A k l r c F K i := by
  obtain ⟨nl, rl, h1, h2, h3, (⟨h4, hF⟩ | ⟨gN, kN, zN, gR, kR, zR, a1, a2, a3, a4, a5, a6, a7, a8, hF⟩)⟩ := h
  · exact ⟨nl, rl, h1, h2, h3, .inl ⟨h4, hF.cx hc hB⟩⟩
  · exact ⟨nl, rl, h1, h2, h3, .inr ⟨gN, kN, zN, gR, kR, zR, a1, a2, a3, a4, a5, a6, a7, a8, hF.cx hc hB⟩⟩
theorem i64s_noV (l : List Int) (zs : List Value) (hz : zs.all noU64 = true) : (l.flatMap (fun x => [i64v x]) ++ zs).all noU64 = true := by
  rw [List.all_append, hz, Bool.and_true, List.all_eq_true]
  intro v hv
  obtain ⟨x, _, hx⟩ := List.mem_flatMap.1 hv
  rw [List.mem_singleton.1 hx]; rfl
theorem lvc_noV (l : List LV) (zs : List Value) (hz : zs.all noU64 = true) : (l.flatMap lvc ++ zs).all noU64 = true := by
  rw [List.all_append, hz, Bool.and_true, List.all_eq_true]
  intro v hv
  obtain ⟨x, _, hx⟩ := List.mem_flatMap.1 hv
  rw [List.mem_singleton.1 hx]; rfl
theorem It.cx {W W' : World} {B b : Nat} {t : TypeId} {cs : List Value} {x : MV} {r c K : Nat} {F : Nat → Nat → Int} (h : Vr W.heap b t cs ∧ LM W.heap x r c F K) (hc : Cx B W W') : Vr W'.heap b t cs ∧ LM W'.heap x r c F K :=
  ⟨by have h1 := h.1; unfold Vr at h1 ⊢; exact (hc.cells _ _ h1 rfl).trans h1, h.2.de hc.de⟩
theorem nq_snoc {nl : List Int} {rl : List LV} {x : LV} {i c B : Nat} (hl : nl.length = i) (hr : rl.length = i) (h : ∀ q, q < i → nl.getD q 0 = (q : Int) ∧ ∀ k, fpA (rl.getD q default).A c k → B ≤ k) (hx : ∀ k, fpA x.A c k → B ≤ k) : ∀ q, q < i + 1 → (nl ++ [(i : Int)]).getD q 0 = (q : Int) ∧ ∀ k, fpA ((rl ++ [x]).getD q default).A c k → B ≤ k := by
  intro q hq
  rcases Nat.lt_or_ge q i with h1 | h1
  · refine ⟨?_, fun k hk => (h q h1).2 k (by rwa [getD_snoc_lt hr h1] at hk)⟩
    rw [← (h q h1).1]
    simp only [List.getD]; rw [List.getElem?_append_left (by omega)]
  · obtain rfl : q = i := by omega
    refine ⟨?_, fun k hk => hx k (by rwa [getD_snoc_eq hr] at hk)⟩
    subst hl
    simp [List.getD]
theorem len_snoc {α : Type} {l : List α} {i : Nat} {x : α} (h : l.length = i) : (l ++ [x]).length = i + 1 := by simp [h]
theorem drop_noV {zs : List Value} (h : zs.all noU64 = true) (n : Nat) : (zs.drop n).all noU64 = true := List.all_eq_true.2 fun v hv => List.all_eq_true.1 h v (List.mem_of_mem_drop hv)
set_option maxRecDepth 100000 in
theorem plays20 (w : World) (o : OV) (ho : o.kind = 20) (r c : Nat) (F : Nat → Nat → Int) (K : Nat) (hK : K ≤ 35184372088832)
    (hC : ∀ w1, Ext w w1 → Cl Tryz.prog 54 #[.agg (mvc o.a).toArray] w1 (RetIt w1 r c F K)) : Cl Tryz.prog 16 #[.agg (ovc o).toArray] w (RetA w (sR r c F) K) := by
  obtain ⟨kd, ⟨ar, ac, aA, an, ak, al⟩, ⟨br, bc, bA, bn, bk, bl⟩, ⟨lA0, ln0, lk0, ll0⟩, ⟨kn, ⟨kA, km, kc, kl⟩⟩, on, om, pA, pn, pk, p, qA, qn, qk, q, sA, sn, sk, s⟩ := o
  dsimp only at ho
  subst ho
  refine enterM Tryz.func16 rfl rfl rfl (fun _ h => by obtain ⟨a, ha, _⟩ := h; cases ha) ?_
  have hF := Fr.refl w
  repeat' (first | (refine TL.isOp ?_; first | (refine TL.isCall ?_; refine TL.call rfl rfl ?_; first | (refine (hC _ hF.ext).mono ?_; rintro _ w1 ⟨bm, A, k, l, rfl, hVm, hLm, hE, hbm, hMf⟩; replace hF := Fr.addBoxLM hF hE hbm hVm rfl hLm hMf; clear hE hMf hVm; refine Back.mk ?_)) | (refine TL.isBin ?_; refine TL.cmpG rfl rfl rfl rfl (fun hc => ?_) (fun hc => ?_) <;> (try (first | (exfalso; omega) | exact absurd rfl hc))) | (apply TL.ev; (case hd => rfl); (case h => (first | exact ev_simple rfl | (apply Ev.isBin; first | exact ev_eqlFn rfl rfl) | (apply Ev.isLoad; first | exact ev_loadFr hF rfl (by refine ⟨?_, ?_⟩; (focus (repeat (first | exact InV.head | apply InV.tail))); rfl) | exact ev_loadAFr hF rfl (by refine ⟨?_, ?_⟩; (focus (repeat (first | exact InV.head | apply InV.tail))); rfl)) | exact ev_fieldAddr rfl))) | (refine TL.boxAFr hF (d := 1) (cs := [.int .i64 20, .int .i64 ar, .int .i64 ac, .slice aA an ak, .int .i64 br, .int .i64 bc, .slice bA bn bk, .slice lA0 ln0 lk0, .bool kn, .slice kA km kc, .int .i64 on, .int .i64 om, .slice pA pn pk, .slice qA qn qk, .slice sA sn sk]) rfl rfl ?_; clear hF; intro w1 b1 hF) | (refine TL.allocFr hF (d := 2) rfl rfl ?_; clear hF; intro w2 b2 hF) | (refine TL.allocFr hF (d := 3) rfl rfl ?_; clear hF; intro w3 b3 hF)) | (refine G.is ?_; first | refine G.nextI ?_) | refine TL.nil ?_ | (refine TI.is ?_; first | refine TI.seq ?_ | refine TI.region rfl ?_ | refine TI.block ?_ | refine TI.cond_t rfl ?_ | refine TI.cond_f rfl ?_ | refine TI.skip ?_))
  have hr64 := hLm.sh.r64
  have hE1 := hF.ext
  have hS0 : PlS w w1 bm b3 b2 A k l r c F K 0 := ⟨[], [], rfl, rfl, fun q hq => absurd hq (Nat.not_lt_zero _), .inl ⟨rfl, Fr.rw0 (hF.weak (by repeat (first | exact List.Sublist.refl _ | apply List.Sublist.cons_cons | apply List.Sublist.cons)) allR) _ _ _ _⟩⟩
  refine TI.rangeFunc (lines_iter bm r c K k A l F hK) rfl inferInstance (fun _ => rfl) rfl ⟨hF.var (by repeat (first | exact InV.head | apply InV.tail)), hLm⟩ (fun W W' h hc => It.cx h hc) (fun i W => PlS w W bm b3 b2 A k l r c F K i) (fun _ _ => False) (fun i W W' h hc => h.cx hc hE1.size) (fun _ _ _ h _ => h) hS0 ?_ ?_ (fun _ _ _ _ _ h => h.elim)
  · rintro L j ⟨i, xA, xn, xk, xl⟩ Wb W hi hL hlp hS hIt hEb ⟨e1, e2, hLL, hLF⟩
    dsimp only at e1 e2 hLL hLF
    subst e1 e2
    have hB := hE1.size
    clear hF hS0
    repeat' (first | (refine TL.isOp ?_; first | (apply TL.ev; (case hd => rfl); (case h => (first | exact ev_simple rfl)))) | (refine G.is ?_; first | refine G.nextI ?_) | refine TL.nil ?_ | (refine TI.is ?_; first | refine TI.seq ?_ | refine TI.region rfl ?_))
    refine G.begun ⟨Nat.le_refl _, fun _ _ h _ => h⟩ fun w2 hc2 hl2 => ?_
    obtain ⟨nl, rl, hnl, hrl, hnq, (⟨h0, hF⟩ | ⟨gN, kN, zN, gR, kR, zR, a1, a2, a3, a4, a5, a6, a7, a8, hF⟩)⟩ := hS
    · subst h0
      obtain rfl : nl = [] := List.eq_nil_of_length_eq_zero hnl
      obtain rfl : rl = [] := List.eq_nil_of_length_eq_zero hrl
      have hxn : ∀ k, fpA xA xn k → w.heap.size ≤ k := fun k hk => Nat.le_trans hF.ext.size (lf_fp hLF k hk)
      have hF1 := (Fr.addLL hF hEb hLL hLF).cx hc2 hB
      have hF2 := (Fr.rwAdd hF1 (i := 0) (l := []) rfl (by repeat (first | exact memH | apply memT)) (by repeat (first | exact memH | apply memT))).weak (List.Sublist.refl _) (D := [dpRw 1 [⟨xA, xn, xk, xl⟩] xn F K, dpLM ⟨r, xn, A, r * xn, k, l⟩ r xn F K]) (by repeat (first | exact allN | refine allH (by repeat (first | exact memH | apply memT)) ?_))
      obtain ⟨S, hO, hF⟩ := hF2.open
      clear hF1 hF2
      repeat' (first | (refine TL.isOp ?_; first | (refine TL.isBin ?_; refine TL.cmpG rfl rfl rfl rfl (fun hc => ?_) (fun hc => ?_) <;> (try (first | (exfalso; omega) | exact absurd rfl hc))) | (apply TL.ev; (case hd => rfl); (case h => (first | exact ev_simple rfl | (apply Ev.isLoad; first | exact ev_loadFr hF rfl (by refine ⟨?_, ?_⟩; (focus (repeat (first | exact InV.head | apply InV.tail))); rfl)) | exact ev_len rfl | exact ev_fieldAddr rfl))) | (refine TL.storeFr hF rfl rfl rfl rfl (by refine ⟨?_, ?_⟩; (focus (repeat (first | apply SetV.head | apply SetV.tail))); rfl) rfl ?_; clear hF; intro ws hF) | (refine TL.build1Fr hF (f := i64v) (u := 0) (fun _ => rfl) rfl rfl rfl ?_; clear hF; intro wl bl hbl hF hSl hEl) | (refine TL.build1Fr hF (f := fun (x : LV) => Value.slice x.A x.n x.k) (u := ⟨xA, xn, xk, xl⟩) (fun _ => rfl) rfl rfl rfl ?_; clear hF; intro wl bl hbl hF hSl hEl) | (refine TL.appendNewFr hF (fun x => [i64v x]) rfl rfl rfl rfl hSl (fun _ => rfl) rfl rfl (by omega) (fun h0 => absurd h0 (by omega)) ?_; clear hF hSl hEl; intro _ wn bN cN zN hcN hzN hzNn hF) | (refine TL.appendNewFr hF lvc rfl rfl rfl rfl hSl (fun _ => rfl) rfl rfl (by omega) (fun h0 => absurd h0 (by omega)) ?_; clear hF hSl hEl; intro _ wn bR cR zR hcR hzR hzRn hF)) | (refine G.is ?_; first | refine G.nextI ?_ | refine G.blockN ?_) | refine TL.nil ?_ | (refine TI.is ?_; first | refine TI.seq ?_ | refine TI.region rfl ?_ | refine TI.block ?_ | refine TI.cond_f rfl ?_ | refine TI.skip ?_))
      have hF0 := Fr.shut hO hF
      exact G.round (Fr.others hO hF) ⟨⟨[0], [⟨xA, xn, xk, xl⟩], rfl, rfl, nq_snoc (nl := []) (rl := []) rfl rfl hnq hxn, .inr ⟨bN, cN, zN, bR, cR, zR, hcN, hzN, hzNn, hcR, hzR, hzRn, (hF0.lo (b := bN) (by repeat (first | exact InV.head | apply InV.tail))).resolve_right id, (hF0.lo (b := bR) (by repeat (first | exact InV.head | apply InV.tail))).resolve_right id, hF0⟩⟩, hF.var (by repeat (first | exact InV.head | apply InV.tail)), Fr.lm hF (by repeat (first | exact memH | apply memT))⟩
    · have hxn : ∀ k, fpA xA xn k → w.heap.size ≤ k := fun k hk => Nat.le_trans hF.ext.size (lf_fp hLF k hk)
      have hF1 := (Fr.addLL hF hEb hLL hLF).cx hc2 hB
      have hF2 := (Fr.rwAdd hF1 (i := i) (l := rl) hrl (by repeat (first | exact memH | apply memT)) (by repeat (first | exact memH | apply memT))).weak (List.Sublist.refl _) (D := [dpRw (i + 1) (rl ++ [⟨xA, xn, xk, xl⟩]) xn F K, dpLM ⟨r, xn, A, r * xn, k, l⟩ r xn F K]) (by repeat (first | exact allN | refine allH (by repeat (first | exact memH | apply memT)) ?_))
      obtain ⟨S, hO, hF⟩ := hF2.open
      clear hF1 hF2
      repeat' (first | (refine TL.isOp ?_; first | (refine TL.isBin ?_; refine TL.cmpG rfl rfl rfl rfl (fun hc => ?_) (fun hc => ?_) <;> (try (first | (exfalso; omega) | exact absurd rfl hc))) | (apply TL.ev; (case hd => rfl); (case h => (first | exact ev_simple rfl | (apply Ev.isLoad; first | exact ev_loadFr hF rfl (by refine ⟨?_, ?_⟩; (focus (repeat (first | exact InV.head | apply InV.tail))); rfl)) | exact ev_len rfl | exact ev_fieldAddr rfl))) | (refine TL.storeFr hF rfl rfl rfl rfl (by refine ⟨?_, ?_⟩; (focus (repeat (first | apply SetV.head | apply SetV.tail))); rfl) rfl ?_; clear hF; intro ws hF) | (refine TL.build1Fr hF (f := i64v) (u := (i : Int)) (fun _ => rfl) rfl rfl rfl ?_; clear hF; intro wl bl hbl hF hSl hEl) | (refine TL.build1Fr hF (f := fun (x : LV) => Value.slice x.A x.n x.k) (u := ⟨xA, xn, xk, xl⟩) (fun _ => rfl) rfl rfl rfl ?_; clear hF; intro wl bl hbl hF hSl hEl) | (refine TL.appendAtFr (f := fun x => [i64v x]) (l := nl) (zs := zN) hF rfl rfl rfl rfl hSl (fun _ => rfl) (fun _ => rfl) rfl rfl hnl a2 a1 (i64s_noV _ _ a3) (by omega) (by repeat (first | apply SetV.head | apply SetV.tail)) (fun hle wn hFn => ?_) (fun hgr wn bN cN zN2 hcN hzN hzNn hFn => ?_) <;> (clear hF hSl hEl; have hF := hFn; clear hFn)) | (refine TL.appendAtFr (f := lvc) (l := rl) (zs := zR) hF rfl rfl rfl rfl hSl (fun _ => rfl) (fun _ => rfl) rfl rfl hrl a5 a4 (lvc_noV _ _ a6) (by omega) (by repeat (first | apply SetV.head | apply SetV.tail)) (fun hle2 wn hFn => ?_) (fun hgr2 wn bR cR zR2 hcR hzR hzRn hFn => ?_) <;> (clear hF hSl hEl; have hF := hFn; clear hFn))) | (refine G.is ?_; first | refine G.nextI ?_ | refine G.blockN ?_) | refine TL.nil ?_ | (refine TI.is ?_; first | refine TI.seq ?_ | refine TI.region rfl ?_ | refine TI.block ?_ | refine TI.cond_f rfl ?_ | refine TI.skip ?_))
      · have hF0 := Fr.shut hO hF
        exact G.round (Fr.others hO hF) ⟨⟨nl ++ [(i : Int)], rl ++ [⟨xA, xn, xk, xl⟩], len_snoc hnl, len_snoc hrl, nq_snoc hnl hrl hnq hxn, .inr ⟨gN, kN, _, gR, kR, _, hle, by rw [List.length_drop]; omega, drop_noV a3 _, hle2, by rw [List.length_drop]; omega, drop_noV a6 _, a7, a8, hF0⟩⟩, hF.var (by repeat (first | exact InV.head | apply InV.tail)), Fr.lm hF (by repeat (first | exact memH | apply memT))⟩
      · have hF0 := Fr.shut hO hF
        exact G.round (Fr.others hO hF) ⟨⟨nl ++ [(i : Int)], rl ++ [⟨xA, xn, xk, xl⟩], len_snoc hnl, len_snoc hrl, nq_snoc hnl hrl hnq hxn, .inr ⟨gN, kN, _, bR, cR, zR2, hle, by rw [List.length_drop]; omega, drop_noV a3 _, hcR, hzR, hzRn, a7, (hF0.lo (b := bR) (by repeat (first | exact InV.head | apply InV.tail))).resolve_right id, hF0.weak (.cons_cons _ (.cons _ (.refl _))) allR⟩⟩, hF.var (by repeat (first | exact InV.head | apply InV.tail)), Fr.lm hF (by repeat (first | exact memH | apply memT))⟩
      · have hF0 := Fr.shut hO hF
        exact G.round (Fr.others hO hF) ⟨⟨nl ++ [(i : Int)], rl ++ [⟨xA, xn, xk, xl⟩], len_snoc hnl, len_snoc hrl, nq_snoc hnl hrl hnq hxn, .inr ⟨bN, cN, zN2, gR, kR, _, hcN, hzN, hzNn, hle2, by rw [List.length_drop]; omega, drop_noV a6 _, (hF0.lo (b := bN) (by repeat (first | exact InV.head | apply InV.tail))).resolve_right id, a8, hF0.swap.weak (.cons_cons _ (.cons_cons _ (.cons _ (.refl _)))) allR⟩⟩, hF.var (by repeat (first | exact InV.head | apply InV.tail)), Fr.lm hF (by repeat (first | exact memH | apply memT))⟩
      · have hF0 := Fr.shut hO hF
        exact G.round (Fr.others hO hF) ⟨⟨nl ++ [(i : Int)], rl ++ [⟨xA, xn, xk, xl⟩], len_snoc hnl, len_snoc hrl, nq_snoc hnl hrl hnq hxn, .inr ⟨bN, cN, zN2, bR, cR, zR2, hcN, hzN, hzNn, hcR, hzR, hzRn, (hF0.lo (b := bN) (by repeat (first | exact InV.head | apply InV.tail))).resolve_right id, (hF0.lo (b := bR) (by repeat (first | exact InV.head | apply InV.tail))).resolve_right id, hF0.weak (.cons_cons _ (.cons_cons _ (.cons _ (.cons _ (.refl _))))) allR⟩⟩, hF.var (by repeat (first | exact InV.head | apply InV.tail)), Fr.lm hF (by repeat (first | exact memH | apply memT))⟩
  · rintro D w2 hD hDw ⟨nl, rl, hnl, hrl, hnq, (⟨h0, hF⟩ | ⟨gN, kN, zN, gR, kR, zR, a1, a2, a3, a4, a5, a6, a7, a8, hF⟩)⟩ hIt
    · subst h0
      obtain ⟨S, hO, hF⟩ := hF.open
      repeat' (first | (refine TL.isOp ?_; first | (apply TL.ev; (case hd => rfl); (case h => (first | (apply Ev.isLoad; first | exact ev_loadAFr hF rfl (by refine ⟨?_, ?_⟩; (focus (repeat (first | exact InV.head | apply InV.tail))); rfl))))) | (refine TL.storeAFr hF rfl rfl rfl rfl (by refine ⟨?_, ?_⟩; (focus (repeat (first | apply SetV.head | apply SetV.tail))); rfl) rfl ?_; clear hF; intro ws hF)) | (refine G.is ?_; first | refine G.nextI ?_ | refine G.blockN ?_) | refine TL.nil ?_ | (refine TI.is ?_; first | refine TI.seq ?_ | refine TI.region rfl ?_ | refine TI.ret ?_))
      have hD2 := (Fr.others hO hF).same D _ hDw rfl
      have hF1 := (Fr.shut hO hF).cx (Cx.shut hD hD2) hE1.size
      refine G.retKC1 rfl rfl hD2 (held_agg (hF1.var (by repeat (first | exact InV.head | apply InV.tail))) rfl) ⟨⟨⟨0, 0, none, 0, 0, []⟩, ⟨false, ⟨none, 0, 0, []⟩⟩, ⟨none, 0, 0, []⟩, none, 0, 0, [], none, 0, 0, [], false, 0⟩, rfl, ?_, hF1.ext, af_x mf_none⟩
      exact ⟨lm_none _ _ _, ⟨li_nought _, Nat.zero_le _⟩, ⟨ll_zero _ _ _, rfl⟩, ⟨rows_zero _, rfl, fun q hq => absurd hq (Nat.not_lt_zero _)⟩, ⟨Sl.nil _ _ _ _ _, rfl, fun q hq => absurd hq (Nat.not_lt_zero _)⟩, rfl, rfl⟩
    · obtain ⟨S, hO, hF⟩ := hF.open
      repeat' (first | (refine TL.isOp ?_; first | (apply TL.ev; (case hd => rfl); (case h => (first | (apply Ev.isLoad; first | exact ev_loadAFr hF rfl (by refine ⟨?_, ?_⟩; (focus (repeat (first | exact InV.head | apply InV.tail))); rfl))))) | (refine TL.storeAFr hF rfl rfl rfl rfl (by refine ⟨?_, ?_⟩; (focus (repeat (first | apply SetV.head | apply SetV.tail))); rfl) rfl ?_; clear hF; intro ws hF)) | (refine G.is ?_; first | refine G.nextI ?_ | refine G.blockN ?_) | refine TL.nil ?_ | (refine TI.is ?_; first | refine TI.seq ?_ | refine TI.region rfl ?_ | refine TI.ret ?_))
      have hD2 := (Fr.others hO hF).same D _ hDw rfl
      have hF1 := (Fr.shut hO hF).cx (Cx.shut hD hD2) hE1.size
      have hrw : RwK r rl c F K _ := Fr.rws hF1 (by repeat (first | exact memH | apply memT))
      refine G.retKC1 rfl rfl hD2 (held_agg (hF1.var (by repeat (first | exact InV.head | apply InV.tail))) rfl) ⟨⟨⟨0, 0, none, 0, 0, []⟩, ⟨false, ⟨none, 0, 0, []⟩⟩, ⟨none, 0, 0, []⟩, some ⟨gR, 0, none⟩, r, kR, rl, some ⟨gN, 0, none⟩, r, kN, nl, false, 0⟩, rfl, ?_, hF1.ext, fun k hk => ?_⟩
      · exact ⟨lm_none _ _ _, ⟨li_nought _, Nat.zero_le _⟩, ⟨ll_zero _ _ _, rfl⟩, ⟨vr_sm (by omega) (fun _ _ => rfl) (hF1.var (b := gR) (by repeat (first | exact InV.head | apply InV.tail))) hrl a4 (hF1.var (b := gR) (by repeat (first | exact InV.head | apply InV.tail))).lt, rfl, hrw⟩, ⟨vr_sl1 (hF1.var (b := gN) (by repeat (first | exact InV.head | apply InV.tail))) hnl a1 (hF1.var (b := gN) (by repeat (first | exact InV.head | apply InV.tail))).lt, rfl, fun q hq => (hnq q hq).1⟩, rfl, rfl⟩
      · rcases hk with hk | hk | ⟨_, o, e⟩ | ⟨_, o, e⟩ | ⟨q, hq, hk⟩
        · exact absurd hk fpA_none
        · exact absurd hk fpA_none
        · cases e; exact a8
        · cases e; exact a7
        · dsimp only at hq hk
          rw [(hrw q hq).1] at hk
          exact (hnq q hq).2 k hk
end Go.Proofs.YtlhmehikajidhaaGreat
namespace Go.Proofs.YtlhmehikajidhaaGreat
open Go Go.Eng Go.Proofs Go.NatM Go.RowKit
structure AS.Eqv (s t : AS) : Prop where
  r : s.r = t.r
  c : s.c = t.c
  F : ∀ i j, i < s.r → j < s.c → s.F i j = t.F i j
  y : s.y = t.y
  n : s.n = t.n
  Z : ∀ q, q < s.n → s.Z q = t.Z q
  rn : s.rn = t.rn
  rc : 0 < s.rn → s.rc = t.rc
  R : ∀ i j, i < s.rn → j < s.rc → s.R i j = t.R i j
  ok : s.ok = t.ok
  e : s.e = t.e
theorem AS.Eqv.rfl (s : AS) : AS.Eqv s s := ⟨_root_.rfl, _root_.rfl, fun _ _ _ _ => _root_.rfl, _root_.rfl, _root_.rfl, fun _ _ => _root_.rfl, _root_.rfl, fun _ => _root_.rfl, fun _ _ _ _ => _root_.rfl, _root_.rfl, _root_.rfl⟩
def sv (x : LV) : Value := .slice x.A x.n x.k
theorem sm_sv {H : Array Obj} {B n c : Nat} {A : Option Addr} {l : List LV} (h : Sm 1 lvc H B A n c l) : Sl sv H B A n c l := by
  refine ⟨h.len, h.cap, h.mem.imp id ?_⟩
  rintro ⟨b', o, e, hlt, hm⟩
  refine ⟨b', o, e, hlt, fun j x hx => ?_⟩
  have := hm j x hx 0 (sv x) rfl
  simpa using this
theorem rows_li {w : World} {n k k' : Nat} {A A' : Option Addr} {l l' : List IV} {Z Z' : Nat → Int} {K : Nat} (h : LL w.heap A n k l Z K) (h' : LL w.heap A' n k' l' Z' K) (hZ : ∀ q, q < n → Z q = Z' q) (hn : n ≤ 4096) (hK : K ≤ 1099511627776) :
    Cl Tryz.prog 58 #[.slice A n k, .slice A' n k'] w (YesM w) :=
  alikeRows_t w n A A' k k' l l' h.s h'.s hn fun q hq => by
    obtain ⟨g1, n1⟩ := h.g q hq
    obtain ⟨g2, n2⟩ := h'.g q hq
    exact ⟨g1.g, g2.g, by rw [g1.d, g2.d, hZ q hq], by rw [g1.e, g2.e, hZ q hq], by omega, by omega⟩
theorem ev_loadSv {P : Program} {σ : Store} {H : Array Obj} {d : Option Tmp} {t : TypeId} {pos : String} {af : Array Edge} {gd : Option (Nat × Bool)} {x : Operand} {ty : TypeId} [hO : UOne P ty] {B n c k : Nat} {A : Option Addr} {l : List LV} {v : LV}
    (hx : Eng.look σ x = some (.pointer (elemA A k))) (hs : Sl sv H B A n c l) (hk : k < n) (hv : l.getD k default = v) : Ev P σ H ⟨d, .load ty x, t, pos, af, gd⟩ (.slice v.A v.n v.k) := by
  have h1 := hs.len
  have h2 : l[k]? = some v := by rw [← hv]; simp [List.getD, show k < l.length by omega]
  exact ev_loadSl (f := sv) hx hs h2
set_option maxRecDepth 100000 in
theorem same9_t (w : World) (a b : AV) (s t : AS) (K : Nat) (ha : AOK w.heap a s K) (hb : AOK w.heap b t K) (he : AS.Eqv s t) (hK : K ≤ 1099511627776) (hn : s.n ≤ 4096) (hrn : s.rn ≤ 4096) (hrc : 0 < s.rn → s.rc ≤ 4096) :
    Cl Tryz.prog 18 #[.agg (avc a).toArray, .agg (avc b).toArray] w (YesM w) := by
  obtain ⟨sr, sc, sF, sy, sn, sZ, srn, src, sR, sok, se⟩ := s
  obtain ⟨tr, tc, tF, ty, tn, tZ, trn, trc, tR, tok, te⟩ := t
  obtain ⟨e1, e2, e3, e4, e5, e6, e7, e8, e9, e10, e11⟩ := he
  dsimp only at e1 e2 e3 e4 e5 e6 e7 e8 e9 e10 e11 hn hrn hrc
  subst e1 e2 e4 e5 e7 e10 e11
  obtain ⟨ax, ay, al, ar, an, aok, ae⟩ := ha
  obtain ⟨bx, by_, bl, br, bn, bok, be⟩ := hb
  have hM := fun w1 (hE : Ext w w1) => alikeMats_t w1 a.x b.x sr sc K K sF tF (ax.ext hE) (bx.ext hE) e3 hK hK
  have hI := fun w1 (hE : Ext w w1) => alike_li w1 a.y b.y (ay.1.ext hE) (by_.1.ext hE) rfl (Nat.le_trans ay.2 hK) (Nat.le_trans by_.2 hK)
  have hL := fun w1 (hE : Ext w w1) => rows_li (w := w1) (al.1.ext hE) (bl.1.ext hE) e6 hn hK
  have hR := fun w1 (hE : Ext w w1) i (hi : i < srn) => rows_li (w := w1) ((ar.2.2 i hi).2.ext hE) (k' := (b.r.getD i default).k) (A' := (b.r.getD i default).A) (l' := (b.r.getD i default).l) (Z' := tR i) (by have h := (br.2.2 i hi).2.ext hE; rw [show trc = src from (e8 (by omega)).symm] at h; exact h) (fun q hq => e9 i q hi hq) (hrc (by omega)) hK
  have hRa := fun i (hi : i < srn) => (ar.2.2 i hi).1
  have hRb := fun i (hi : i < srn) => ((br.2.2 i hi).1.trans (e8 (by omega)).symm)
  have sa := sm_sv ar.1
  have sb := sm_sv br.1
  have na := an.1
  have nb := bn.1
  have nqa := an.2.2
  have nqb := bn.2.2
  obtain ⟨_, b1⟩ := al
  obtain ⟨_, b2⟩ := bl
  obtain ⟨_, b3, _⟩ := ar
  obtain ⟨_, b4, _⟩ := br
  obtain ⟨_, b5, _⟩ := an
  obtain ⟨_, b6, _⟩ := bn
  clear ax ay bx by_ e3 e6 e8 e9
  obtain ⟨⟨xr, xc, xA, xn, xk, xl⟩, ⟨yn, ⟨yA, ym, yc, yl⟩⟩, ⟨lA, ln, lk, ll⟩, rA, rn, rk, rl, nA, nn, nk, ns, ok, e⟩ := a
  obtain ⟨⟨xr', xc', xA', xn', xk', xl'⟩, ⟨yn', ⟨yA', ym', yc', yl'⟩⟩, ⟨lA', ln', lk', ll'⟩, rA', rn', rk', rl', nA', nn', nk', ns', ok', e'⟩ := b
  dsimp only at b1 b2 b3 b4 b5 b6 aok ae bok be hM hI hL hR hRa hRb sa sb na nb nqa nqb
  subst b1 b2 b3 b5 aok ae
  subst b4 b6 bok be
  refine enter Tryz.func18 rfl rfl rfl ?_
  have hF := Fr.refl w
  repeat' (first | (refine TL.isOp ?_; first | (refine TL.isG ?_; first | refine TL.grun rfl rfl rfl ?_) | (refine TL.isCall ?_; refine TL.call rfl rfl ?_; first | (refine (hM _ hF.ext).mono ?_; rintro _ wc ⟨rfl, hE⟩; replace hF := hF.exts hE; clear hE; refine Back.mk ?_) | (refine (hI _ hF.ext).mono ?_; rintro _ wc ⟨rfl, hE⟩; replace hF := hF.exts hE; clear hE; refine Back.mk ?_) | (refine (hL _ hF.ext).mono ?_; rintro _ wc ⟨rfl, hE⟩; replace hF := hF.exts hE; clear hE; refine Back.mk ?_)) | (refine TL.isBin ?_; refine TL.cmpG rfl rfl rfl rfl (fun hc => ?_) (fun hc => ?_) <;> (try (first | (exfalso; omega) | exact absurd rfl hc))) | (apply TL.ev; (case hd => rfl); (case h => (first | exact ev_simple rfl | (apply Ev.isBin; first | exact ev_neqB (r := false) rfl rfl (by cases ok' <;> rfl)) | (apply Ev.isLoad; first | exact ev_loadFr hF rfl (by refine ⟨?_, ?_⟩; (focus (repeat (first | exact InV.head | apply InV.tail))); rfl) | exact ev_loadAFr hF rfl (by refine ⟨?_, ?_⟩; (focus (repeat (first | exact InV.head | apply InV.tail))); rfl)) | exact ev_len rfl | exact ev_fieldAddr rfl))) | (refine TL.boxAFr hF (d := 2) (cs := [.int .i64 xr, .int .i64 xc, .slice xA xn xk, .bool yn, .slice yA ym yc, .slice lA ln' lk, .slice rA nn' rk, .slice nA nn' nk, .bool ok', .int .i64 e']) rfl rfl ?_; clear hF; intro w2 b2 hF) | (refine TL.boxAFr hF (d := 3) (cs := [.int .i64 xr', .int .i64 xc', .slice xA' xn' xk', .bool yn', .slice yA' ym' yc', .slice lA' ln' lk', .slice rA' nn' rk', .slice nA' nn' nk', .bool ok', .int .i64 e']) rfl rfl ?_; clear hF; intro w3 b3 hF)) | (refine T.is ?_; first | refine T.seq ?_ | refine T.region ?_ | refine T.block ?_ | refine T.cond_f rfl ?_ | refine T.skip ?_) | (refine G.is ?_; first | refine G.next ?_) | refine TL.nil ?_)
  refine T.loop (α := Nat) (fun i => [(2, .pointer (some ⟨b2, 0, none⟩)), (3, .pointer (some ⟨b3, 0, none⟩)), (5, .int .i64 (i : Int))])
    (fun i w' => i ≤ nn' ∧ Fr w w' [⟨b3, 51, [.int .i64 xr', .int .i64 xc', .slice xA' xn' xk', .bool yn', .slice yA' ym' yc', .slice lA' ln' lk', .slice rA' nn' rk', .slice nA' nn' nk', .bool ok', .int .i64 e']⟩, ⟨b2, 51, [.int .i64 xr, .int .i64 xc, .slice xA xn xk, .bool yn, .slice yA ym yc, .slice lA ln' lk, .slice rA nn' rk, .slice nA nn' nk, .bool ok', .int .i64 e']⟩] []) (fun i => nn' - i) 0 (by repeat (first | exact Sub.nil _ | refine Sub.cons rfl ?_ | refine Sub.cons' rfl (int_congr (by omega)) ?_)) ⟨Nat.zero_le _, hF⟩ ?_
  clear hF
  rintro i w2 ⟨hi, hF⟩
  rcases Nat.lt_or_ge i nn' with hin | hin
  · have hRi := fun w1 hE => hR w1 hE i hin
    have ha' := hRa i hin
    have hb' := hRb i hin
    obtain ⟨va, eva⟩ : ∃ v, rl.getD i default = v := ⟨_, rfl⟩
    obtain ⟨vb, evb⟩ : ∃ v, rl'.getD i default = v := ⟨_, rfl⟩
    rw [eva] at ha' hRi
    rw [evb] at hb' hRi
    obtain ⟨vA, vn, vk, vl⟩ := va
    obtain ⟨uA, un, uk, ul⟩ := vb
    dsimp only at ha' hb' hRi
    subst ha'
    subst hb'
    have qa := nqa i hin
    have qb := nqb i hin
    repeat' (first | (refine TL.isOp ?_; first | (refine TL.isG ?_; first | refine TL.grun rfl rfl rfl ?_) | (refine TL.isCall ?_; refine TL.call rfl rfl ?_; first | (refine (hRi _ hF.ext).mono ?_; rintro _ wc ⟨rfl, hE⟩; replace hF := hF.exts hE; clear hE; refine Back.mk ?_)) | (refine TL.isBin ?_; refine TL.cmpG rfl rfl rfl rfl (fun hc => ?_) (fun hc => ?_) <;> (try (first | (exfalso; omega) | exact absurd rfl hc))) | (apply TL.ev; (case hd => rfl); (case h => (first | exact ev_simple rfl | (apply Ev.isBin; first | exact ev_arN rfl rfl rfl (by omega)) | (apply Ev.isLoad; first | exact ev_loadFr hF rfl (by refine ⟨?_, ?_⟩; (focus (repeat (first | exact InV.head | apply InV.tail))); rfl) | exact ev_loadIz rfl (na.ext hF.ext) hin qa | exact ev_loadIz rfl (nb.ext hF.ext) hin qb) | exact ev_len rfl | exact ev_fieldAddr rfl | exact ev_indexN rfl rfl hin (na.ext hF.ext).some | exact ev_indexN rfl rfl hin (nb.ext hF.ext).some)))) | (refine TF.is ?_; first | refine TF.nil ?_ | refine TF.e rfl ?_ | (refine TF.pick rfl ?_; first | (apply TFo.ev; (case hd => rfl); (case h => (intro wh hF; first | exact ev_simple rfl | (apply Ev.isLoad; first | exact ev_loadFr hF rfl (by refine ⟨?_, ?_⟩; (focus (repeat (first | exact InV.head | apply InV.tail))); rfl) | exact ev_loadSv rfl (sa.ext hF.ext) hin eva | exact ev_loadSv rfl (sb.ext hF.ext) hin evb) | exact ev_fieldAddr rfl | exact ev_indexN rfl rfl hin (sa.ext hF.ext).some | exact ev_indexN rfl rfl hin (sb.ext hF.ext).some))))) | (refine T.is ?_; first | refine T.seq ?_ | refine T.region ?_ | refine T.block ?_ | refine T.cond_t rfl ?_ | refine T.cond_f rfl ?_ | refine T.skip ?_ | (refine T.regionFr hF 6 12 (.s 0 (.s 1 (.s 2 (.s 3 (.s 4 (.s 5 (.s 6 (.s 7 (.s 8 (.s 9 (.e 10 (.s 11 .nil)))))))))))) mixed (by kernel_rfl) ?_; clear hF; intro wr hF) | refine T.regionQ mixed (by kernel_rfl) ?_) | (refine G.is ?_; first | refine G.next ?_ | refine G.blockN ?_ | refine G.only ?_ | refine G.tree rfl (by first | exact hF | exact hF.weak (by repeat (first | exact List.Sublist.refl _ | apply List.Sublist.cons)) (by repeat (first | exact allR | apply allT)) | exact hF.weak (by repeat (first | exact List.Sublist.refl _ | apply List.Sublist.cons)) (by repeat (first | exact allN | refine allH (by repeat (first | exact memH | apply memT)) ?_))) ?_) | refine TL.nil ?_ | (refine TL.nilFr hF ?_; clear hF; intro wq hF))
    exact G.again (i + 1) (by repeat (first | exact Sub.nil _ | refine Sub.cons rfl ?_ | refine Sub.cons' rfl (int_congr (by omega)) ?_)) ⟨by omega, hF⟩ (by omega)
  · obtain rfl : i = nn' := by omega
    repeat' (first | (refine TL.isOp ?_; first | (refine TL.isBin ?_; refine TL.cmpG rfl rfl rfl rfl (fun hc => ?_) (fun hc => ?_) <;> (try (first | (exfalso; omega) | exact absurd rfl hc))) | (apply TL.ev; (case hd => rfl); (case h => (first | exact ev_simple rfl | (apply Ev.isLoad; first | exact ev_loadFr hF rfl (by refine ⟨?_, ?_⟩; (focus (repeat (first | exact InV.head | apply InV.tail))); rfl)) | exact ev_len rfl | exact ev_fieldAddr rfl)))) | (refine T.is ?_; first | refine T.seq ?_ | refine T.region ?_ | refine T.cond_f rfl ?_ | refine T.exit ?_ | refine T.ret ?_) | (refine G.is ?_; first | refine G.next ?_ | refine G.blockE ?_ | refine G.thenE ?_) | refine TL.nil ?_)
    exact G.ret1 rfl rfl ⟨rfl, hF.ext⟩
end Go.Proofs.YtlhmehikajidhaaGreat
