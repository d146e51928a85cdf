/- The document's answers to layer 9's calls, kind by kind (printed by genwants9.py). Digits to the base 65536, more. The document's answers for layer 2: digits, words. The document's answers for layer 1: Add, Sub. The document's answers for layer 1: Sub, power. The document's answers for layer 1: power, Low. The laws of layer 1 that hold the program's calls against one another: the walks. The walk of NatOrder. The laws of layer 2 that hold the program's calls against one another: helpers. The walks of MulnatPowers, MulnatShifts, MulnatLong. The walk of MulnatLists. The document's answers for layer 2: Mul, Word, MulAdd, MulLow, Square, Pow, Product. -/
import Derived.Test.YtlhmehikajidhaaGreatPm8
import Derived.Test.YtlhmehikajidhaaGreatPm5
import Derived.Test.YtlhmehikajidhaaGreatPm6
import Derived.Test.YtlhmehikajidhaaGreatPm2
import Derived.Test.YtlhmehikajidhaaGreatPm3
import Derived.Test.YtlhmehikajidhaaGreatPm4
set_option maxHeartbeats 8000000
set_option linter.unusedVariables false
set_option linter.unusedSimpArgs false
namespace Go.Proofs.YtlhmehikajidhaaGreat
open Go Go.Eng Go.Proofs Go.NatM Go.RowKit
set_option maxRecDepth 100000 in
theorem wants_lo (w : World) (o : OV) (ho : o.kind ≤ 7) (s0 : AS) (K : Nat) (hM : ∀ w1, Ext w w1 → Cl Tryz.prog 42 #[.agg (ovc o).toArray] w1 (RetA w1 s0 K)) : Cl Tryz.prog 15 #[.agg (ovc o).toArray] w (RetA w s0 K) := by
  obtain ⟨kd, ⟨ar, ac, aA, an, ak, al⟩, ⟨br, bc, bA, bn, bk, bl⟩, ⟨lA0, ln0, lk0, ll0⟩, ⟨kn, ⟨kA, km, kc, kl⟩⟩, on, om, pA, pn, pk, p, qA, qn, qk, q, sA, sn, sk, s⟩ := o
  dsimp only at ho
  refine enter Tryz.func15 rfl rfl rfl ?_
  have hF := Fr.refl w
  repeat' (first | (refine TL.isOp ?_; first | (refine TL.isCall ?_; refine TL.call rfl rfl ?_; first | (refine (hM _ hF.ext).mono ?_; rintro _ w1 ⟨⟨⟨xr, xc, xA, xn, xk, xl⟩, ⟨yn, ⟨yA, ym, yc, yl⟩⟩, ⟨lA, ln, lk, ll⟩, rA, rn, rk, rl, nA, nn, nk, ns, ok, e⟩, rfl, hA, hE, hf⟩; have hfx := hf.mono hF.ext.size; replace hF := Fr.addA hF hE hA hf; clear hE hA hf; refine Back.mk ?_)) | (refine TL.isBin ?_; refine TL.cmpG rfl rfl rfl rfl (fun hc => ?_) (fun hc => ?_) <;> (try (first | (exfalso; omega) | exact absurd rfl hc))) | (apply TL.ev; (case hd => rfl); (case h => (first | exact ev_simple rfl | (apply Ev.isLoad; first | exact ev_loadFr hF rfl (by refine ⟨?_, ?_⟩; (focus (repeat (first | exact InV.head | apply InV.tail))); rfl) | exact ev_loadAFr hF rfl (by refine ⟨?_, ?_⟩; (focus (repeat (first | exact InV.head | apply InV.tail))); rfl)) | exact ev_fieldAddr rfl))) | (refine TL.storeAFr hF rfl rfl rfl rfl (by refine ⟨?_, ?_⟩; (focus (repeat (first | apply SetV.head | apply SetV.tail))); rfl) rfl ?_; clear hF; intro ws hF) | (refine TL.boxAFr hF (d := 1) (cs := [.int .i64 kd, .int .i64 ar, .int .i64 ac, .slice aA an ak, .int .i64 br, .int .i64 bc, .slice bA bn bk, .slice lA0 ln0 lk0, .bool kn, .slice kA km kc, .int .i64 on, .int .i64 om, .slice pA pn pk, .slice qA qn qk, .slice sA sn sk]) rfl rfl ?_; clear hF; intro w1 b1 hF) | (refine TL.allocFr hF (d := 2) rfl rfl ?_; clear hF; intro w2 b2 hF) | (refine TL.allocFr hF (d := 3) rfl rfl ?_; clear hF; intro w3 b3 hF)) | (refine T.is ?_; first | refine T.seq ?_ | refine T.region ?_ | refine T.block ?_ | refine T.cond_f rfl ?_ | refine T.ret ?_) | (refine G.is ?_; first | refine G.next ?_ | refine G.blockR ?_ | refine G.thenR ?_) | refine TL.nil ?_)
  exact G.retC1 rfl rfl (held_agg (hF.var (by repeat (first | exact InV.head | apply InV.tail))) rfl) ⟨_, rfl, Fr.aok hF (by repeat (first | exact memH | apply memT)), hF.ext, hfx⟩
set_option maxRecDepth 100000 in
theorem wmakes1 (w : World) (o : OV) (ho : o.kind = 1) (err : Int) (K : Nat)
    (hC : ∀ w1, Ext w w1 → Cl Tryz.prog 73 #[.agg (mvc o.a).toArray] w1 (RetC w1 err)) : Cl Tryz.prog 42 #[.agg (ovc o).toArray] w (RetA w (sE err) K) := by
  obtain ⟨kd, ⟨ar, ac, aA, an, ak, al⟩, ⟨br, bc, bA, bn, bk, bl⟩, ⟨lA0, ln0, lk0, ll0⟩, ⟨kn, ⟨kA, km, kc, kl⟩⟩, on, om, pA, pn, pk, p, qA, qn, qk, q, sA, sn, sk, s⟩ := o
  dsimp only at ho
  subst ho
  refine enter Tryz.func42 rfl rfl rfl ?_
  have hF := Fr.refl w
  repeat' (first | (refine TL.isOp ?_; first | (refine TL.isCall ?_; refine TL.call rfl rfl ?_; first | (refine (hC _ hF.ext).mono ?_; rintro _ w1 ⟨rfl, hE⟩; replace hF := hF.exts hE; clear hE; refine Back.mk ?_)) | (refine TL.isBin ?_; refine TL.cmpG rfl rfl rfl rfl (fun hc => ?_) (fun hc => ?_) <;> (try (first | (exfalso; omega) | exact absurd rfl hc))) | (apply TL.ev; (case hd => rfl); (case h => (first | exact ev_simple rfl | (apply Ev.isLoad; first | exact ev_loadFr hF rfl (by refine ⟨?_, ?_⟩; (focus (repeat (first | exact InV.head | apply InV.tail))); rfl) | exact ev_loadAFr hF rfl (by refine ⟨?_, ?_⟩; (focus (repeat (first | exact InV.head | apply InV.tail))); rfl)) | exact ev_fieldAddr rfl))) | (refine TL.storeAFr hF rfl rfl rfl rfl (by refine ⟨?_, ?_⟩; (focus (repeat (first | apply SetV.head | apply SetV.tail))); rfl) rfl ?_; clear hF; intro ws hF) | (refine TL.storeFr hF rfl rfl rfl rfl (by refine ⟨?_, ?_⟩; (focus (repeat (first | apply SetV.head | apply SetV.tail))); rfl) rfl ?_; clear hF; intro ws hF) | (refine TL.boxAFr hF (d := 1) (cs := [.int .i64 1, .int .i64 ar, .int .i64 ac, .slice aA an ak, .int .i64 br, .int .i64 bc, .slice bA bn bk, .slice lA0 ln0 lk0, .bool kn, .slice kA km kc, .int .i64 on, .int .i64 om, .slice pA pn pk, .slice qA qn qk, .slice sA sn sk]) rfl rfl ?_; clear hF; intro w1 b1 hF) | (refine TL.allocFr hF (d := 2) rfl rfl ?_; clear hF; intro w2 b2 hF) | (refine TL.allocFr hF (d := 3) rfl rfl ?_; clear hF; intro w3 b3 hF)) | (refine T.is ?_; first | refine T.seq ?_ | refine T.region ?_ | refine T.block ?_ | refine T.cond_t rfl ?_ | refine T.ret ?_) | (refine G.is ?_; first | refine G.next ?_ | refine G.blockN ?_) | refine TL.nil ?_)
  exact G.retC1 rfl rfl (held_agg (hF.var (by repeat (first | exact InV.head | apply InV.tail))) rfl) ⟨⟨⟨0, 0, none, 0, 0, []⟩, ⟨false, ⟨none, 0, 0, []⟩⟩, ⟨none, 0, 0, []⟩, none, 0, 0, [], none, 0, 0, [], false, err⟩, rfl, aok_b _ false err K, hF.ext, af_x mf_none⟩
theorem wants1 (w : World) (o : OV) (ho : o.kind = 1) (err : Int) (K : Nat)
    (hC : ∀ w1, Ext w w1 → Cl Tryz.prog 73 #[.agg (mvc o.a).toArray] w1 (RetC w1 err)) : Cl Tryz.prog 15 #[.agg (ovc o).toArray] w (RetA w (sE err) K) :=
  wants_lo w o (by omega) _ K fun w1 hE => wmakes1 w1 o ho err K fun w2 hE2 => hC w2 (Ext.trans hE hE2)
set_option maxRecDepth 100000 in
theorem wmakes2 (w : World) (o : OV) (ho : o.kind = 2) (r c : Nat) (F : Nat → Nat → Int) (err : Int) (K : Nat)
    (hC : ∀ w1, Ext w w1 → Cl Tryz.prog 78 #[.int .i64 o.n, .int .i64 o.m, .slice o.l.A o.l.n o.l.k] w1 (RetX w1 r c F err K)) : Cl Tryz.prog 42 #[.agg (ovc o).toArray] w (RetA w (sX r c F err) K) := by
  obtain ⟨kd, ⟨ar, ac, aA, an, ak, al⟩, ⟨br, bc, bA, bn, bk, bl⟩, ⟨lA0, ln0, lk0, ll0⟩, ⟨kn, ⟨kA, km, kc, kl⟩⟩, on, om, pA, pn, pk, p, qA, qn, qk, q, sA, sn, sk, s⟩ := o
  dsimp only at ho
  subst ho
  refine enter Tryz.func42 rfl rfl rfl ?_
  have hF := Fr.refl w
  repeat' (first | (refine TL.isOp ?_; first | (refine TL.isCall ?_; refine TL.call rfl rfl ?_; first | (refine (hC _ hF.ext).mono ?_; rintro _ w1 ⟨⟨xr, xc, xA, xn, xk, xl⟩, rfl, hL, hE, hf⟩; have hfx := hf.mono hF.ext.size; replace hF := Fr.addLM hF hE hL hf; clear hE hf hL; refine Back.mk ?_)) | (refine TL.isBin ?_; refine TL.cmpG rfl rfl rfl rfl (fun hc => ?_) (fun hc => ?_) <;> (try (first | (exfalso; omega) | exact absurd rfl hc))) | (apply TL.ev; (case hd => rfl); (case h => (first | exact ev_simple rfl | (apply Ev.isLoad; first | exact ev_loadFr hF rfl (by refine ⟨?_, ?_⟩; (focus (repeat (first | exact InV.head | apply InV.tail))); rfl) | exact ev_loadAFr hF rfl (by refine ⟨?_, ?_⟩; (focus (repeat (first | exact InV.head | apply InV.tail))); rfl)) | exact ev_fieldAddr rfl))) | (refine TL.storeAFr hF rfl rfl rfl rfl (by refine ⟨?_, ?_⟩; (focus (repeat (first | apply SetV.head | apply SetV.tail))); rfl) rfl ?_; clear hF; intro ws hF) | (refine TL.storeFr hF rfl rfl rfl rfl (by refine ⟨?_, ?_⟩; (focus (repeat (first | apply SetV.head | apply SetV.tail))); rfl) rfl ?_; clear hF; intro ws hF) | (refine TL.boxAFr hF (d := 1) (cs := [.int .i64 2, .int .i64 ar, .int .i64 ac, .slice aA an ak, .int .i64 br, .int .i64 bc, .slice bA bn bk, .slice lA0 ln0 lk0, .bool kn, .slice kA km kc, .int .i64 on, .int .i64 om, .slice pA pn pk, .slice qA qn qk, .slice sA sn sk]) rfl rfl ?_; clear hF; intro w1 b1 hF) | (refine TL.allocFr hF (d := 2) rfl rfl ?_; clear hF; intro w2 b2 hF) | (refine TL.allocFr hF (d := 3) rfl rfl ?_; clear hF; intro w3 b3 hF)) | (refine T.is ?_; first | refine T.seq ?_ | refine T.region ?_ | refine T.block ?_ | refine T.cond_t rfl ?_ | refine T.cond_f rfl ?_ | refine T.ret ?_) | (refine G.is ?_; first | refine G.next ?_ | refine G.blockN ?_) | refine TL.nil ?_)
  exact G.retC1 rfl rfl (held_agg (hF.var (by repeat (first | exact InV.head | apply InV.tail))) rfl) ⟨⟨⟨xr, xc, xA, xn, xk, xl⟩, ⟨false, ⟨none, 0, 0, []⟩⟩, ⟨none, 0, 0, []⟩, none, 0, 0, [], none, 0, 0, [], false, err⟩, rfl, aok_x (Fr.lm hF (by repeat (first | exact memH | apply memT))), hF.ext, af_x hfx⟩
theorem wants2 (w : World) (o : OV) (ho : o.kind = 2) (r c : Nat) (F : Nat → Nat → Int) (err : Int) (K : Nat)
    (hC : ∀ w1, Ext w w1 → Cl Tryz.prog 78 #[.int .i64 o.n, .int .i64 o.m, .slice o.l.A o.l.n o.l.k] w1 (RetX w1 r c F err K)) : Cl Tryz.prog 15 #[.agg (ovc o).toArray] w (RetA w (sX r c F err) K) :=
  wants_lo w o (by omega) _ K fun w1 hE => wmakes2 w1 o ho r c F err K fun w2 hE2 => hC w2 (Ext.trans hE hE2)
set_option maxRecDepth 100000 in
theorem wmakes3 (w : World) (o : OV) (ho : o.kind = 3) (r c : Nat) (F : Nat → Nat → Int) (err : Int) (K : Nat)
    (hC : ∀ w1, Ext w w1 → Cl Tryz.prog 79 #[.agg (mvc o.a).toArray] w1 (RetX w1 r c F err K)) : Cl Tryz.prog 42 #[.agg (ovc o).toArray] w (RetA w (sX r c F err) K) := by
  obtain ⟨kd, ⟨ar, ac, aA, an, ak, al⟩, ⟨br, bc, bA, bn, bk, bl⟩, ⟨lA0, ln0, lk0, ll0⟩, ⟨kn, ⟨kA, km, kc, kl⟩⟩, on, om, pA, pn, pk, p, qA, qn, qk, q, sA, sn, sk, s⟩ := o
  dsimp only at ho
  subst ho
  refine enter Tryz.func42 rfl rfl rfl ?_
  have hF := Fr.refl w
  repeat' (first | (refine TL.isOp ?_; first | (refine TL.isCall ?_; refine TL.call rfl rfl ?_; first | (refine (hC _ hF.ext).mono ?_; rintro _ w1 ⟨⟨xr, xc, xA, xn, xk, xl⟩, rfl, hL, hE, hf⟩; have hfx := hf.mono hF.ext.size; replace hF := Fr.addLM hF hE hL hf; clear hE hf hL; refine Back.mk ?_)) | (refine TL.isBin ?_; refine TL.cmpG rfl rfl rfl rfl (fun hc => ?_) (fun hc => ?_) <;> (try (first | (exfalso; omega) | exact absurd rfl hc))) | (apply TL.ev; (case hd => rfl); (case h => (first | exact ev_simple rfl | (apply Ev.isLoad; first | exact ev_loadFr hF rfl (by refine ⟨?_, ?_⟩; (focus (repeat (first | exact InV.head | apply InV.tail))); rfl) | exact ev_loadAFr hF rfl (by refine ⟨?_, ?_⟩; (focus (repeat (first | exact InV.head | apply InV.tail))); rfl)) | exact ev_fieldAddr rfl))) | (refine TL.storeAFr hF rfl rfl rfl rfl (by refine ⟨?_, ?_⟩; (focus (repeat (first | apply SetV.head | apply SetV.tail))); rfl) rfl ?_; clear hF; intro ws hF) | (refine TL.storeFr hF rfl rfl rfl rfl (by refine ⟨?_, ?_⟩; (focus (repeat (first | apply SetV.head | apply SetV.tail))); rfl) rfl ?_; clear hF; intro ws hF) | (refine TL.boxAFr hF (d := 1) (cs := [.int .i64 3, .int .i64 ar, .int .i64 ac, .slice aA an ak, .int .i64 br, .int .i64 bc, .slice bA bn bk, .slice lA0 ln0 lk0, .bool kn, .slice kA km kc, .int .i64 on, .int .i64 om, .slice pA pn pk, .slice qA qn qk, .slice sA sn sk]) rfl rfl ?_; clear hF; intro w1 b1 hF) | (refine TL.allocFr hF (d := 2) rfl rfl ?_; clear hF; intro w2 b2 hF) | (refine TL.allocFr hF (d := 3) rfl rfl ?_; clear hF; intro w3 b3 hF)) | (refine T.is ?_; first | refine T.seq ?_ | refine T.region ?_ | refine T.block ?_ | refine T.cond_t rfl ?_ | refine T.cond_f rfl ?_ | refine T.ret ?_) | (refine G.is ?_; first | refine G.next ?_ | refine G.blockN ?_) | refine TL.nil ?_)
  exact G.retC1 rfl rfl (held_agg (hF.var (by repeat (first | exact InV.head | apply InV.tail))) rfl) ⟨⟨⟨xr, xc, xA, xn, xk, xl⟩, ⟨false, ⟨none, 0, 0, []⟩⟩, ⟨none, 0, 0, []⟩, none, 0, 0, [], none, 0, 0, [], false, err⟩, rfl, aok_x (Fr.lm hF (by repeat (first | exact memH | apply memT))), hF.ext, af_x hfx⟩
theorem wants3 (w : World) (o : OV) (ho : o.kind = 3) (r c : Nat) (F : Nat → Nat → Int) (err : Int) (K : Nat)
    (hC : ∀ w1, Ext w w1 → Cl Tryz.prog 79 #[.agg (mvc o.a).toArray] w1 (RetX w1 r c F err K)) : Cl Tryz.prog 15 #[.agg (ovc o).toArray] w (RetA w (sX r c F err) K) :=
  wants_lo w o (by omega) _ K fun w1 hE => wmakes3 w1 o ho r c F err K fun w2 hE2 => hC w2 (Ext.trans hE hE2)
set_option maxRecDepth 100000 in
theorem wmakes4 (w : World) (o : OV) (ho : o.kind = 4) (r c : Nat) (F : Nat → Nat → Int) (err : Int) (K : Nat)
    (hC : ∀ w1, Ext w w1 → Cl Tryz.prog 80 #[.int .i64 o.n, .int .i64 o.m] w1 (RetX w1 r c F err K)) : Cl Tryz.prog 42 #[.agg (ovc o).toArray] w (RetA w (sX r c F err) K) := by
  obtain ⟨kd, ⟨ar, ac, aA, an, ak, al⟩, ⟨br, bc, bA, bn, bk, bl⟩, ⟨lA0, ln0, lk0, ll0⟩, ⟨kn, ⟨kA, km, kc, kl⟩⟩, on, om, pA, pn, pk, p, qA, qn, qk, q, sA, sn, sk, s⟩ := o
  dsimp only at ho
  subst ho
  refine enter Tryz.func42 rfl rfl rfl ?_
  have hF := Fr.refl w
  repeat' (first | (refine TL.isOp ?_; first | (refine TL.isCall ?_; refine TL.call rfl rfl ?_; first | (refine (hC _ hF.ext).mono ?_; rintro _ w1 ⟨⟨xr, xc, xA, xn, xk, xl⟩, rfl, hL, hE, hf⟩; have hfx := hf.mono hF.ext.size; replace hF := Fr.addLM hF hE hL hf; clear hE hf hL; refine Back.mk ?_)) | (refine TL.isBin ?_; refine TL.cmpG rfl rfl rfl rfl (fun hc => ?_) (fun hc => ?_) <;> (try (first | (exfalso; omega) | exact absurd rfl hc))) | (apply TL.ev; (case hd => rfl); (case h => (first | exact ev_simple rfl | (apply Ev.isLoad; first | exact ev_loadFr hF rfl (by refine ⟨?_, ?_⟩; (focus (repeat (first | exact InV.head | apply InV.tail))); rfl) | exact ev_loadAFr hF rfl (by refine ⟨?_, ?_⟩; (focus (repeat (first | exact InV.head | apply InV.tail))); rfl)) | exact ev_fieldAddr rfl))) | (refine TL.storeAFr hF rfl rfl rfl rfl (by refine ⟨?_, ?_⟩; (focus (repeat (first | apply SetV.head | apply SetV.tail))); rfl) rfl ?_; clear hF; intro ws hF) | (refine TL.storeFr hF rfl rfl rfl rfl (by refine ⟨?_, ?_⟩; (focus (repeat (first | apply SetV.head | apply SetV.tail))); rfl) rfl ?_; clear hF; intro ws hF) | (refine TL.boxAFr hF (d := 1) (cs := [.int .i64 4, .int .i64 ar, .int .i64 ac, .slice aA an ak, .int .i64 br, .int .i64 bc, .slice bA bn bk, .slice lA0 ln0 lk0, .bool kn, .slice kA km kc, .int .i64 on, .int .i64 om, .slice pA pn pk, .slice qA qn qk, .slice sA sn sk]) rfl rfl ?_; clear hF; intro w1 b1 hF) | (refine TL.allocFr hF (d := 2) rfl rfl ?_; clear hF; intro w2 b2 hF) | (refine TL.allocFr hF (d := 3) rfl rfl ?_; clear hF; intro w3 b3 hF)) | (refine T.is ?_; first | refine T.seq ?_ | refine T.region ?_ | refine T.block ?_ | refine T.cond_t rfl ?_ | refine T.cond_f rfl ?_ | refine T.ret ?_) | (refine G.is ?_; first | refine G.next ?_ | refine G.blockN ?_) | refine TL.nil ?_)
  exact G.retC1 rfl rfl (held_agg (hF.var (by repeat (first | exact InV.head | apply InV.tail))) rfl) ⟨⟨⟨xr, xc, xA, xn, xk, xl⟩, ⟨false, ⟨none, 0, 0, []⟩⟩, ⟨none, 0, 0, []⟩, none, 0, 0, [], none, 0, 0, [], false, err⟩, rfl, aok_x (Fr.lm hF (by repeat (first | exact memH | apply memT))), hF.ext, af_x hfx⟩
theorem wants4 (w : World) (o : OV) (ho : o.kind = 4) (r c : Nat) (F : Nat → Nat → Int) (err : Int) (K : Nat)
    (hC : ∀ w1, Ext w w1 → Cl Tryz.prog 80 #[.int .i64 o.n, .int .i64 o.m] w1 (RetX w1 r c F err K)) : Cl Tryz.prog 15 #[.agg (ovc o).toArray] w (RetA w (sX r c F err) K) :=
  wants_lo w o (by omega) _ K fun w1 hE => wmakes4 w1 o ho r c F err K fun w2 hE2 => hC w2 (Ext.trans hE hE2)
set_option maxRecDepth 100000 in
theorem wmakes5 (w : World) (o : OV) (ho : o.kind = 5) (r c : Nat) (F : Nat → Nat → Int) (err : Int) (K : Nat)
    (hC : ∀ w1, Ext w w1 → Cl Tryz.prog 76 #[.int .i64 o.n] w1 (RetX w1 r c F err K)) : Cl Tryz.prog 42 #[.agg (ovc o).toArray] w (RetA w (sX r c F err) K) := by
  obtain ⟨kd, ⟨ar, ac, aA, an, ak, al⟩, ⟨br, bc, bA, bn, bk, bl⟩, ⟨lA0, ln0, lk0, ll0⟩, ⟨kn, ⟨kA, km, kc, kl⟩⟩, on, om, pA, pn, pk, p, qA, qn, qk, q, sA, sn, sk, s⟩ := o
  dsimp only at ho
  subst ho
  refine enter Tryz.func42 rfl rfl rfl ?_
  have hF := Fr.refl w
  repeat' (first | (refine TL.isOp ?_; first | (refine TL.isCall ?_; refine TL.call rfl rfl ?_; first | (refine (hC _ hF.ext).mono ?_; rintro _ w1 ⟨⟨xr, xc, xA, xn, xk, xl⟩, rfl, hL, hE, hf⟩; have hfx := hf.mono hF.ext.size; replace hF := Fr.addLM hF hE hL hf; clear hE hf hL; refine Back.mk ?_)) | (refine TL.isBin ?_; refine TL.cmpG rfl rfl rfl rfl (fun hc => ?_) (fun hc => ?_) <;> (try (first | (exfalso; omega) | exact absurd rfl hc))) | (apply TL.ev; (case hd => rfl); (case h => (first | exact ev_simple rfl | (apply Ev.isLoad; first | exact ev_loadFr hF rfl (by refine ⟨?_, ?_⟩; (focus (repeat (first | exact InV.head | apply InV.tail))); rfl) | exact ev_loadAFr hF rfl (by refine ⟨?_, ?_⟩; (focus (repeat (first | exact InV.head | apply InV.tail))); rfl)) | exact ev_fieldAddr rfl))) | (refine TL.storeAFr hF rfl rfl rfl rfl (by refine ⟨?_, ?_⟩; (focus (repeat (first | apply SetV.head | apply SetV.tail))); rfl) rfl ?_; clear hF; intro ws hF) | (refine TL.storeFr hF rfl rfl rfl rfl (by refine ⟨?_, ?_⟩; (focus (repeat (first | apply SetV.head | apply SetV.tail))); rfl) rfl ?_; clear hF; intro ws hF) | (refine TL.boxAFr hF (d := 1) (cs := [.int .i64 5, .int .i64 ar, .int .i64 ac, .slice aA an ak, .int .i64 br, .int .i64 bc, .slice bA bn bk, .slice lA0 ln0 lk0, .bool kn, .slice kA km kc, .int .i64 on, .int .i64 om, .slice pA pn pk, .slice qA qn qk, .slice sA sn sk]) rfl rfl ?_; clear hF; intro w1 b1 hF) | (refine TL.allocFr hF (d := 2) rfl rfl ?_; clear hF; intro w2 b2 hF) | (refine TL.allocFr hF (d := 3) rfl rfl ?_; clear hF; intro w3 b3 hF)) | (refine T.is ?_; first | refine T.seq ?_ | refine T.region ?_ | refine T.block ?_ | refine T.cond_t rfl ?_ | refine T.cond_f rfl ?_ | refine T.ret ?_) | (refine G.is ?_; first | refine G.next ?_ | refine G.blockN ?_) | refine TL.nil ?_)
  exact G.retC1 rfl rfl (held_agg (hF.var (by repeat (first | exact InV.head | apply InV.tail))) rfl) ⟨⟨⟨xr, xc, xA, xn, xk, xl⟩, ⟨false, ⟨none, 0, 0, []⟩⟩, ⟨none, 0, 0, []⟩, none, 0, 0, [], none, 0, 0, [], false, err⟩, rfl, aok_x (Fr.lm hF (by repeat (first | exact memH | apply memT))), hF.ext, af_x hfx⟩
theorem wants5 (w : World) (o : OV) (ho : o.kind = 5) (r c : Nat) (F : Nat → Nat → Int) (err : Int) (K : Nat)
    (hC : ∀ w1, Ext w w1 → Cl Tryz.prog 76 #[.int .i64 o.n] w1 (RetX w1 r c F err K)) : Cl Tryz.prog 15 #[.agg (ovc o).toArray] w (RetA w (sX r c F err) K) :=
  wants_lo w o (by omega) _ K fun w1 hE => wmakes5 w1 o ho r c F err K fun w2 hE2 => hC w2 (Ext.trans hE hE2)
set_option maxRecDepth 100000 in
theorem wmakes6 (w : World) (o : OV) (ho : o.kind = 6) (r c : Nat) (F : Nat → Nat → Int) (err : Int) (K : Nat)
    (hC : ∀ w1, Ext w w1 → Cl Tryz.prog 81 #[.int .i64 o.n, .int .i64 o.m, .slice o.l.A o.l.n o.l.k] w1 (RetX w1 r c F err K)) : Cl Tryz.prog 42 #[.agg (ovc o).toArray] w (RetA w (sX r c F err) K) := by
  obtain ⟨kd, ⟨ar, ac, aA, an, ak, al⟩, ⟨br, bc, bA, bn, bk, bl⟩, ⟨lA0, ln0, lk0, ll0⟩, ⟨kn, ⟨kA, km, kc, kl⟩⟩, on, om, pA, pn, pk, p, qA, qn, qk, q, sA, sn, sk, s⟩ := o
  dsimp only at ho
  subst ho
  refine enter Tryz.func42 rfl rfl rfl ?_
  have hF := Fr.refl w
  repeat' (first | (refine TL.isOp ?_; first | (refine TL.isCall ?_; refine TL.call rfl rfl ?_; first | (refine (hC _ hF.ext).mono ?_; rintro _ w1 ⟨⟨xr, xc, xA, xn, xk, xl⟩, rfl, hL, hE, hf⟩; have hfx := hf.mono hF.ext.size; replace hF := Fr.addLM hF hE hL hf; clear hE hf hL; refine Back.mk ?_)) | (refine TL.isBin ?_; refine TL.cmpG rfl rfl rfl rfl (fun hc => ?_) (fun hc => ?_) <;> (try (first | (exfalso; omega) | exact absurd rfl hc))) | (apply TL.ev; (case hd => rfl); (case h => (first | exact ev_simple rfl | (apply Ev.isLoad; first | exact ev_loadFr hF rfl (by refine ⟨?_, ?_⟩; (focus (repeat (first | exact InV.head | apply InV.tail))); rfl) | exact ev_loadAFr hF rfl (by refine ⟨?_, ?_⟩; (focus (repeat (first | exact InV.head | apply InV.tail))); rfl)) | exact ev_fieldAddr rfl))) | (refine TL.storeAFr hF rfl rfl rfl rfl (by refine ⟨?_, ?_⟩; (focus (repeat (first | apply SetV.head | apply SetV.tail))); rfl) rfl ?_; clear hF; intro ws hF) | (refine TL.storeFr hF rfl rfl rfl rfl (by refine ⟨?_, ?_⟩; (focus (repeat (first | apply SetV.head | apply SetV.tail))); rfl) rfl ?_; clear hF; intro ws hF) | (refine TL.boxAFr hF (d := 1) (cs := [.int .i64 6, .int .i64 ar, .int .i64 ac, .slice aA an ak, .int .i64 br, .int .i64 bc, .slice bA bn bk, .slice lA0 ln0 lk0, .bool kn, .slice kA km kc, .int .i64 on, .int .i64 om, .slice pA pn pk, .slice qA qn qk, .slice sA sn sk]) rfl rfl ?_; clear hF; intro w1 b1 hF) | (refine TL.allocFr hF (d := 2) rfl rfl ?_; clear hF; intro w2 b2 hF) | (refine TL.allocFr hF (d := 3) rfl rfl ?_; clear hF; intro w3 b3 hF)) | (refine T.is ?_; first | refine T.seq ?_ | refine T.region ?_ | refine T.block ?_ | refine T.cond_t rfl ?_ | refine T.cond_f rfl ?_ | refine T.ret ?_) | (refine G.is ?_; first | refine G.next ?_ | refine G.blockN ?_) | refine TL.nil ?_)
  exact G.retC1 rfl rfl (held_agg (hF.var (by repeat (first | exact InV.head | apply InV.tail))) rfl) ⟨⟨⟨xr, xc, xA, xn, xk, xl⟩, ⟨false, ⟨none, 0, 0, []⟩⟩, ⟨none, 0, 0, []⟩, none, 0, 0, [], none, 0, 0, [], false, err⟩, rfl, aok_x (Fr.lm hF (by repeat (first | exact memH | apply memT))), hF.ext, af_x hfx⟩
theorem wants6 (w : World) (o : OV) (ho : o.kind = 6) (r c : Nat) (F : Nat → Nat → Int) (err : Int) (K : Nat)
    (hC : ∀ w1, Ext w w1 → Cl Tryz.prog 81 #[.int .i64 o.n, .int .i64 o.m, .slice o.l.A o.l.n o.l.k] w1 (RetX w1 r c F err K)) : Cl Tryz.prog 15 #[.agg (ovc o).toArray] w (RetA w (sX r c F err) K) :=
  wants_lo w o (by omega) _ K fun w1 hE => wmakes6 w1 o ho r c F err K fun w2 hE2 => hC w2 (Ext.trans hE hE2)
set_option maxRecDepth 100000 in
theorem wmakes7 (w : World) (o : OV) (ho : o.kind = 7) (b : Bool) (err : Int) (K : Nat)
    (hC : ∀ w1, Ext w w1 → Cl Tryz.prog 82 #[.agg (mvc o.a).toArray, .agg (mvc o.b).toArray] w1 (RetBE w1 b err)) : Cl Tryz.prog 42 #[.agg (ovc o).toArray] w (RetA w (sB b err) K) := by
  obtain ⟨kd, ⟨ar, ac, aA, an, ak, al⟩, ⟨br, bc, bA, bn, bk, bl⟩, ⟨lA0, ln0, lk0, ll0⟩, ⟨kn, ⟨kA, km, kc, kl⟩⟩, on, om, pA, pn, pk, p, qA, qn, qk, q, sA, sn, sk, s⟩ := o
  dsimp only at ho
  subst ho
  refine enter Tryz.func42 rfl rfl rfl ?_
  have hF := Fr.refl w
  repeat' (first | (refine TL.isOp ?_; first | (refine TL.isCall ?_; refine TL.call rfl rfl ?_; first | (refine (hC _ hF.ext).mono ?_; rintro _ w1 ⟨rfl, hE⟩; replace hF := hF.exts hE; clear hE; refine Back.mk ?_)) | (refine TL.isBin ?_; refine TL.cmpG rfl rfl rfl rfl (fun hc => ?_) (fun hc => ?_) <;> (try (first | (exfalso; omega) | exact absurd rfl hc))) | (apply TL.ev; (case hd => rfl); (case h => (first | exact ev_simple rfl | (apply Ev.isLoad; first | exact ev_loadFr hF rfl (by refine ⟨?_, ?_⟩; (focus (repeat (first | exact InV.head | apply InV.tail))); rfl) | exact ev_loadAFr hF rfl (by refine ⟨?_, ?_⟩; (focus (repeat (first | exact InV.head | apply InV.tail))); rfl)) | exact ev_fieldAddr rfl))) | (refine TL.storeAFr hF rfl rfl rfl rfl (by refine ⟨?_, ?_⟩; (focus (repeat (first | apply SetV.head | apply SetV.tail))); rfl) rfl ?_; clear hF; intro ws hF) | (refine TL.storeFr hF rfl rfl rfl rfl (by refine ⟨?_, ?_⟩; (focus (repeat (first | apply SetV.head | apply SetV.tail))); rfl) rfl ?_; clear hF; intro ws hF) | (refine TL.boxAFr hF (d := 1) (cs := [.int .i64 7, .int .i64 ar, .int .i64 ac, .slice aA an ak, .int .i64 br, .int .i64 bc, .slice bA bn bk, .slice lA0 ln0 lk0, .bool kn, .slice kA km kc, .int .i64 on, .int .i64 om, .slice pA pn pk, .slice qA qn qk, .slice sA sn sk]) rfl rfl ?_; clear hF; intro w1 b1 hF) | (refine TL.allocFr hF (d := 2) rfl rfl ?_; clear hF; intro w2 b2 hF) | (refine TL.allocFr hF (d := 3) rfl rfl ?_; clear hF; intro w3 b3 hF)) | (refine T.is ?_; first | refine T.seq ?_ | refine T.region ?_ | refine T.block ?_ | refine T.cond_t rfl ?_ | refine T.cond_f rfl ?_ | refine T.ret ?_) | (refine G.is ?_; first | refine G.next ?_ | refine G.blockN ?_) | refine TL.nil ?_)
  exact G.retC1 rfl rfl (held_agg (hF.var (by repeat (first | exact InV.head | apply InV.tail))) rfl) ⟨⟨⟨0, 0, none, 0, 0, []⟩, ⟨false, ⟨none, 0, 0, []⟩⟩, ⟨none, 0, 0, []⟩, none, 0, 0, [], none, 0, 0, [], b, err⟩, rfl, aok_b _ b err K, hF.ext, af_x mf_none⟩
theorem wants7 (w : World) (o : OV) (ho : o.kind = 7) (b : Bool) (err : Int) (K : Nat)
    (hC : ∀ w1, Ext w w1 → Cl Tryz.prog 82 #[.agg (mvc o.a).toArray, .agg (mvc o.b).toArray] w1 (RetBE w1 b err)) : Cl Tryz.prog 15 #[.agg (ovc o).toArray] w (RetA w (sB b err) K) :=
  wants_lo w o (by omega) _ K fun w1 hE => wmakes7 w1 o ho b err K fun w2 hE2 => hC w2 (Ext.trans hE hE2)
set_option maxRecDepth 100000 in
theorem wants8 (w : World) (o : OV) (ho : o.kind = 8) (r c : Nat) (F : Nat → Nat → Int) (err : Int) (K : Nat)
    (hC : ∀ w1, Ext w w1 → Cl Tryz.prog 29 #[.agg (mvc o.a).toArray, .agg (mvc o.b).toArray] w1 (RetX w1 r c F err K)) : Cl Tryz.prog 15 #[.agg (ovc o).toArray] w (RetA w (sX r c F err) K) := by
  obtain ⟨kd, ⟨ar, ac, aA, an, ak, al⟩, ⟨br, bc, bA, bn, bk, bl⟩, ⟨lA0, ln0, lk0, ll0⟩, ⟨kn, ⟨kA, km, kc, kl⟩⟩, on, om, pA, pn, pk, p, qA, qn, qk, q, sA, sn, sk, s⟩ := o
  dsimp only at ho
  subst ho
  refine enter Tryz.func15 rfl rfl rfl ?_
  have hF := Fr.refl w
  repeat' (first | (refine TL.isOp ?_; first | (refine TL.isCall ?_; refine TL.call rfl rfl ?_; first | (refine (hC _ hF.ext).mono ?_; rintro _ w1 ⟨⟨xr, xc, xA, xn, xk, xl⟩, rfl, hL, hE, hf⟩; have hfx := hf.mono hF.ext.size; replace hF := Fr.addLM hF hE hL hf; clear hE hf hL; refine Back.mk ?_)) | (refine TL.isBin ?_; refine TL.cmpG rfl rfl rfl rfl (fun hc => ?_) (fun hc => ?_) <;> (try (first | (exfalso; omega) | exact absurd rfl hc))) | (apply TL.ev; (case hd => rfl); (case h => (first | exact ev_simple rfl | (apply Ev.isLoad; first | exact ev_loadFr hF rfl (by refine ⟨?_, ?_⟩; (focus (repeat (first | exact InV.head | apply InV.tail))); rfl) | exact ev_loadAFr hF rfl (by refine ⟨?_, ?_⟩; (focus (repeat (first | exact InV.head | apply InV.tail))); rfl)) | exact ev_fieldAddr rfl))) | (refine TL.storeAFr hF rfl rfl rfl rfl (by refine ⟨?_, ?_⟩; (focus (repeat (first | apply SetV.head | apply SetV.tail))); rfl) rfl ?_; clear hF; intro ws hF) | (refine TL.storeFr hF rfl rfl rfl rfl (by refine ⟨?_, ?_⟩; (focus (repeat (first | apply SetV.head | apply SetV.tail))); rfl) rfl ?_; clear hF; intro ws hF) | (refine TL.boxAFr hF (d := 1) (cs := [.int .i64 8, .int .i64 ar, .int .i64 ac, .slice aA an ak, .int .i64 br, .int .i64 bc, .slice bA bn bk, .slice lA0 ln0 lk0, .bool kn, .slice kA km kc, .int .i64 on, .int .i64 om, .slice pA pn pk, .slice qA qn qk, .slice sA sn sk]) rfl rfl ?_; clear hF; intro w1 b1 hF) | (refine TL.allocFr hF (d := 2) rfl rfl ?_; clear hF; intro w2 b2 hF) | (refine TL.allocFr hF (d := 3) rfl rfl ?_; clear hF; intro w3 b3 hF)) | (refine T.is ?_; first | refine T.seq ?_ | refine T.region ?_ | refine T.block ?_ | refine T.cond_t rfl ?_ | refine T.ret ?_) | (refine G.is ?_; first | refine G.next ?_ | refine G.blockN ?_) | refine TL.nil ?_)
  exact G.retC1 rfl rfl (held_agg (hF.var (by repeat (first | exact InV.head | apply InV.tail))) rfl) ⟨⟨⟨xr, xc, xA, xn, xk, xl⟩, ⟨false, ⟨none, 0, 0, []⟩⟩, ⟨none, 0, 0, []⟩, none, 0, 0, [], none, 0, 0, [], false, err⟩, rfl, aok_x (Fr.lm hF (by repeat (first | exact memH | apply memT))), hF.ext, af_x hfx⟩
set_option maxRecDepth 100000 in
theorem wants9 (w : World) (o : OV) (ho : o.kind = 9) (r c : Nat) (F : Nat → Nat → Int) (err : Int) (K : Nat)
    (hC : ∀ w1, Ext w w1 → Cl Tryz.prog 30 #[.agg (mvc o.a).toArray, .agg (mvc o.b).toArray] w1 (RetX w1 r c F err K)) : Cl Tryz.prog 15 #[.agg (ovc o).toArray] w (RetA w (sX r c F err) K) := by
  obtain ⟨kd, ⟨ar, ac, aA, an, ak, al⟩, ⟨br, bc, bA, bn, bk, bl⟩, ⟨lA0, ln0, lk0, ll0⟩, ⟨kn, ⟨kA, km, kc, kl⟩⟩, on, om, pA, pn, pk, p, qA, qn, qk, q, sA, sn, sk, s⟩ := o
  dsimp only at ho
  subst ho
  refine enter Tryz.func15 rfl rfl rfl ?_
  have hF := Fr.refl w
  repeat' (first | (refine TL.isOp ?_; first | (refine TL.isCall ?_; refine TL.call rfl rfl ?_; first | (refine (hC _ hF.ext).mono ?_; rintro _ w1 ⟨⟨xr, xc, xA, xn, xk, xl⟩, rfl, hL, hE, hf⟩; have hfx := hf.mono hF.ext.size; replace hF := Fr.addLM hF hE hL hf; clear hE hf hL; refine Back.mk ?_)) | (refine TL.isBin ?_; refine TL.cmpG rfl rfl rfl rfl (fun hc => ?_) (fun hc => ?_) <;> (try (first | (exfalso; omega) | exact absurd rfl hc))) | (apply TL.ev; (case hd => rfl); (case h => (first | exact ev_simple rfl | (apply Ev.isLoad; first | exact ev_loadFr hF rfl (by refine ⟨?_, ?_⟩; (focus (repeat (first | exact InV.head | apply InV.tail))); rfl) | exact ev_loadAFr hF rfl (by refine ⟨?_, ?_⟩; (focus (repeat (first | exact InV.head | apply InV.tail))); rfl)) | exact ev_fieldAddr rfl))) | (refine TL.storeAFr hF rfl rfl rfl rfl (by refine ⟨?_, ?_⟩; (focus (repeat (first | apply SetV.head | apply SetV.tail))); rfl) rfl ?_; clear hF; intro ws hF) | (refine TL.storeFr hF rfl rfl rfl rfl (by refine ⟨?_, ?_⟩; (focus (repeat (first | apply SetV.head | apply SetV.tail))); rfl) rfl ?_; clear hF; intro ws hF) | (refine TL.boxAFr hF (d := 1) (cs := [.int .i64 9, .int .i64 ar, .int .i64 ac, .slice aA an ak, .int .i64 br, .int .i64 bc, .slice bA bn bk, .slice lA0 ln0 lk0, .bool kn, .slice kA km kc, .int .i64 on, .int .i64 om, .slice pA pn pk, .slice qA qn qk, .slice sA sn sk]) rfl rfl ?_; clear hF; intro w1 b1 hF) | (refine TL.allocFr hF (d := 2) rfl rfl ?_; clear hF; intro w2 b2 hF) | (refine TL.allocFr hF (d := 3) rfl rfl ?_; clear hF; intro w3 b3 hF)) | (refine T.is ?_; first | refine T.seq ?_ | refine T.region ?_ | refine T.block ?_ | refine T.cond_t rfl ?_ | refine T.cond_f rfl ?_ | refine T.ret ?_) | (refine G.is ?_; first | refine G.next ?_ | refine G.blockN ?_) | refine TL.nil ?_)
  exact G.retC1 rfl rfl (held_agg (hF.var (by repeat (first | exact InV.head | apply InV.tail))) rfl) ⟨⟨⟨xr, xc, xA, xn, xk, xl⟩, ⟨false, ⟨none, 0, 0, []⟩⟩, ⟨none, 0, 0, []⟩, none, 0, 0, [], none, 0, 0, [], false, err⟩, rfl, aok_x (Fr.lm hF (by repeat (first | exact memH | apply memT))), hF.ext, af_x hfx⟩
set_option maxRecDepth 100000 in
theorem wants10 (w : World) (o : OV) (ho : o.kind = 10) (r c : Nat) (F : Nat → Nat → Int) (err : Int) (K : Nat)
    (hC : ∀ w1, Ext w w1 → Cl Tryz.prog 31 #[.agg (ivc o.k).toArray, .agg (mvc o.a).toArray] w1 (RetX w1 r c F err K)) : Cl Tryz.prog 15 #[.agg (ovc o).toArray] w (RetA w (sX r c F err) K) := by
  obtain ⟨kd, ⟨ar, ac, aA, an, ak, al⟩, ⟨br, bc, bA, bn, bk, bl⟩, ⟨lA0, ln0, lk0, ll0⟩, ⟨kn, ⟨kA, km, kc, kl⟩⟩, on, om, pA, pn, pk, p, qA, qn, qk, q, sA, sn, sk, s⟩ := o
  dsimp only at ho
  subst ho
  refine enter Tryz.func15 rfl rfl rfl ?_
  have hF := Fr.refl w
  repeat' (first | (refine TL.isOp ?_; first | (refine TL.isCall ?_; refine TL.call rfl rfl ?_; first | (refine (hC _ hF.ext).mono ?_; rintro _ w1 ⟨⟨xr, xc, xA, xn, xk, xl⟩, rfl, hL, hE, hf⟩; have hfx := hf.mono hF.ext.size; replace hF := Fr.addLM hF hE hL hf; clear hE hf hL; refine Back.mk ?_)) | (refine TL.isBin ?_; refine TL.cmpG rfl rfl rfl rfl (fun hc => ?_) (fun hc => ?_) <;> (try (first | (exfalso; omega) | exact absurd rfl hc))) | (apply TL.ev; (case hd => rfl); (case h => (first | exact ev_simple rfl | (apply Ev.isLoad; first | exact ev_loadFr hF rfl (by refine ⟨?_, ?_⟩; (focus (repeat (first | exact InV.head | apply InV.tail))); rfl) | exact ev_loadAFr hF rfl (by refine ⟨?_, ?_⟩; (focus (repeat (first | exact InV.head | apply InV.tail))); rfl)) | exact ev_fieldAddr rfl))) | (refine TL.storeAFr hF rfl rfl rfl rfl (by refine ⟨?_, ?_⟩; (focus (repeat (first | apply SetV.head | apply SetV.tail))); rfl) rfl ?_; clear hF; intro ws hF) | (refine TL.storeFr hF rfl rfl rfl rfl (by refine ⟨?_, ?_⟩; (focus (repeat (first | apply SetV.head | apply SetV.tail))); rfl) rfl ?_; clear hF; intro ws hF) | (refine TL.boxAFr hF (d := 1) (cs := [.int .i64 10, .int .i64 ar, .int .i64 ac, .slice aA an ak, .int .i64 br, .int .i64 bc, .slice bA bn bk, .slice lA0 ln0 lk0, .bool kn, .slice kA km kc, .int .i64 on, .int .i64 om, .slice pA pn pk, .slice qA qn qk, .slice sA sn sk]) rfl rfl ?_; clear hF; intro w1 b1 hF) | (refine TL.allocFr hF (d := 2) rfl rfl ?_; clear hF; intro w2 b2 hF) | (refine TL.allocFr hF (d := 3) rfl rfl ?_; clear hF; intro w3 b3 hF)) | (refine T.is ?_; first | refine T.seq ?_ | refine T.region ?_ | refine T.block ?_ | refine T.cond_t rfl ?_ | refine T.cond_f rfl ?_ | refine T.ret ?_) | (refine G.is ?_; first | refine G.next ?_ | refine G.blockN ?_) | refine TL.nil ?_)
  exact G.retC1 rfl rfl (held_agg (hF.var (by repeat (first | exact InV.head | apply InV.tail))) rfl) ⟨⟨⟨xr, xc, xA, xn, xk, xl⟩, ⟨false, ⟨none, 0, 0, []⟩⟩, ⟨none, 0, 0, []⟩, none, 0, 0, [], none, 0, 0, [], false, err⟩, rfl, aok_x (Fr.lm hF (by repeat (first | exact memH | apply memT))), hF.ext, af_x hfx⟩
set_option maxRecDepth 100000 in
theorem wants11 (w : World) (o : OV) (ho : o.kind = 11) (r c : Nat) (F : Nat → Nat → Int) (err : Int) (K : Nat)
    (hC : ∀ w1, Ext w w1 → Cl Tryz.prog 32 #[.agg (mvc o.a).toArray, .agg (mvc o.b).toArray] w1 (RetX w1 r c F err K)) : Cl Tryz.prog 15 #[.agg (ovc o).toArray] w (RetA w (sX r c F err) K) := by
  obtain ⟨kd, ⟨ar, ac, aA, an, ak, al⟩, ⟨br, bc, bA, bn, bk, bl⟩, ⟨lA0, ln0, lk0, ll0⟩, ⟨kn, ⟨kA, km, kc, kl⟩⟩, on, om, pA, pn, pk, p, qA, qn, qk, q, sA, sn, sk, s⟩ := o
  dsimp only at ho
  subst ho
  refine enter Tryz.func15 rfl rfl rfl ?_
  have hF := Fr.refl w
  repeat' (first | (refine TL.isOp ?_; first | (refine TL.isCall ?_; refine TL.call rfl rfl ?_; first | (refine (hC _ hF.ext).mono ?_; rintro _ w1 ⟨⟨xr, xc, xA, xn, xk, xl⟩, rfl, hL, hE, hf⟩; have hfx := hf.mono hF.ext.size; replace hF := Fr.addLM hF hE hL hf; clear hE hf hL; refine Back.mk ?_)) | (refine TL.isBin ?_; refine TL.cmpG rfl rfl rfl rfl (fun hc => ?_) (fun hc => ?_) <;> (try (first | (exfalso; omega) | exact absurd rfl hc))) | (apply TL.ev; (case hd => rfl); (case h => (first | exact ev_simple rfl | (apply Ev.isLoad; first | exact ev_loadFr hF rfl (by refine ⟨?_, ?_⟩; (focus (repeat (first | exact InV.head | apply InV.tail))); rfl) | exact ev_loadAFr hF rfl (by refine ⟨?_, ?_⟩; (focus (repeat (first | exact InV.head | apply InV.tail))); rfl)) | exact ev_fieldAddr rfl))) | (refine TL.storeAFr hF rfl rfl rfl rfl (by refine ⟨?_, ?_⟩; (focus (repeat (first | apply SetV.head | apply SetV.tail))); rfl) rfl ?_; clear hF; intro ws hF) | (refine TL.storeFr hF rfl rfl rfl rfl (by refine ⟨?_, ?_⟩; (focus (repeat (first | apply SetV.head | apply SetV.tail))); rfl) rfl ?_; clear hF; intro ws hF) | (refine TL.boxAFr hF (d := 1) (cs := [.int .i64 11, .int .i64 ar, .int .i64 ac, .slice aA an ak, .int .i64 br, .int .i64 bc, .slice bA bn bk, .slice lA0 ln0 lk0, .bool kn, .slice kA km kc, .int .i64 on, .int .i64 om, .slice pA pn pk, .slice qA qn qk, .slice sA sn sk]) rfl rfl ?_; clear hF; intro w1 b1 hF) | (refine TL.allocFr hF (d := 2) rfl rfl ?_; clear hF; intro w2 b2 hF) | (refine TL.allocFr hF (d := 3) rfl rfl ?_; clear hF; intro w3 b3 hF)) | (refine T.is ?_; first | refine T.seq ?_ | refine T.region ?_ | refine T.block ?_ | refine T.cond_t rfl ?_ | refine T.cond_f rfl ?_ | refine T.ret ?_) | (refine G.is ?_; first | refine G.next ?_ | refine G.blockN ?_) | refine TL.nil ?_)
  exact G.retC1 rfl rfl (held_agg (hF.var (by repeat (first | exact InV.head | apply InV.tail))) rfl) ⟨⟨⟨xr, xc, xA, xn, xk, xl⟩, ⟨false, ⟨none, 0, 0, []⟩⟩, ⟨none, 0, 0, []⟩, none, 0, 0, [], none, 0, 0, [], false, err⟩, rfl, aok_x (Fr.lm hF (by repeat (first | exact memH | apply memT))), hF.ext, af_x hfx⟩
set_option maxRecDepth 100000 in
theorem wants12 (w : World) (o : OV) (ho : o.kind = 12) (n : Nat) (Z : Nat → Int) (err : Int) (K : Nat)
    (hC : ∀ w1, Ext w w1 → Cl Tryz.prog 33 #[.slice o.l.A o.l.n o.l.k, .agg (mvc o.a).toArray] w1 (RetV w1 n Z err K)) : Cl Tryz.prog 15 #[.agg (ovc o).toArray] w (RetA w (sL n Z err) K) := by
  obtain ⟨kd, ⟨ar, ac, aA, an, ak, al⟩, ⟨br, bc, bA, bn, bk, bl⟩, ⟨lA0, ln0, lk0, ll0⟩, ⟨kn, ⟨kA, km, kc, kl⟩⟩, on, om, pA, pn, pk, p, qA, qn, qk, q, sA, sn, sk, s⟩ := o
  dsimp only at ho
  subst ho
  refine enter Tryz.func15 rfl rfl rfl ?_
  have hF := Fr.refl w
  repeat' (first | (refine TL.isOp ?_; first | (refine TL.isCall ?_; refine TL.call rfl rfl ?_; first | (refine (hC _ hF.ext).mono ?_; rintro _ w1 ⟨lA, lk, ll, rfl, hL, hE, hf⟩; have hfx := LF.mono hf hF.ext.size; replace hF := Fr.addLL hF hE hL hf; clear hE hf hL; refine Back.mk ?_)) | (refine TL.isBin ?_; refine TL.cmpG rfl rfl rfl rfl (fun hc => ?_) (fun hc => ?_) <;> (try (first | (exfalso; omega) | exact absurd rfl hc))) | (apply TL.ev; (case hd => rfl); (case h => (first | exact ev_simple rfl | (apply Ev.isLoad; first | exact ev_loadFr hF rfl (by refine ⟨?_, ?_⟩; (focus (repeat (first | exact InV.head | apply InV.tail))); rfl) | exact ev_loadAFr hF rfl (by refine ⟨?_, ?_⟩; (focus (repeat (first | exact InV.head | apply InV.tail))); rfl)) | exact ev_fieldAddr rfl))) | (refine TL.storeAFr hF rfl rfl rfl rfl (by refine ⟨?_, ?_⟩; (focus (repeat (first | apply SetV.head | apply SetV.tail))); rfl) rfl ?_; clear hF; intro ws hF) | (refine TL.storeFr hF rfl rfl rfl rfl (by refine ⟨?_, ?_⟩; (focus (repeat (first | apply SetV.head | apply SetV.tail))); rfl) rfl ?_; clear hF; intro ws hF) | (refine TL.boxAFr hF (d := 1) (cs := [.int .i64 12, .int .i64 ar, .int .i64 ac, .slice aA an ak, .int .i64 br, .int .i64 bc, .slice bA bn bk, .slice lA0 ln0 lk0, .bool kn, .slice kA km kc, .int .i64 on, .int .i64 om, .slice pA pn pk, .slice qA qn qk, .slice sA sn sk]) rfl rfl ?_; clear hF; intro w1 b1 hF) | (refine TL.allocFr hF (d := 2) rfl rfl ?_; clear hF; intro w2 b2 hF) | (refine TL.allocFr hF (d := 3) rfl rfl ?_; clear hF; intro w3 b3 hF)) | (refine T.is ?_; first | refine T.seq ?_ | refine T.region ?_ | refine T.block ?_ | refine T.cond_t rfl ?_ | refine T.cond_f rfl ?_ | refine T.ret ?_) | (refine G.is ?_; first | refine G.next ?_ | refine G.blockN ?_) | refine TL.nil ?_)
  exact G.retC1 rfl rfl (held_agg (hF.var (by repeat (first | exact InV.head | apply InV.tail))) rfl) ⟨⟨⟨0, 0, none, 0, 0, []⟩, ⟨false, ⟨none, 0, 0, []⟩⟩, ⟨lA, n, lk, ll⟩, none, 0, 0, [], none, 0, 0, [], false, err⟩, rfl, aok_l (Fr.ll hF (by repeat (first | exact memH | apply memT))), hF.ext, af_l hfx⟩
set_option maxRecDepth 100000 in
theorem wants13 (w : World) (o : OV) (ho : o.kind = 13) (r c : Nat) (F : Nat → Nat → Int) (err : Int) (K : Nat)
    (hC : ∀ w1, Ext w w1 → Cl Tryz.prog 34 #[.agg (mvc o.a).toArray, .int .i64 o.n] w1 (RetX w1 r c F err K)) : Cl Tryz.prog 15 #[.agg (ovc o).toArray] w (RetA w (sX r c F err) K) := by
  obtain ⟨kd, ⟨ar, ac, aA, an, ak, al⟩, ⟨br, bc, bA, bn, bk, bl⟩, ⟨lA0, ln0, lk0, ll0⟩, ⟨kn, ⟨kA, km, kc, kl⟩⟩, on, om, pA, pn, pk, p, qA, qn, qk, q, sA, sn, sk, s⟩ := o
  dsimp only at ho
  subst ho
  refine enter Tryz.func15 rfl rfl rfl ?_
  have hF := Fr.refl w
  repeat' (first | (refine TL.isOp ?_; first | (refine TL.isCall ?_; refine TL.call rfl rfl ?_; first | (refine (hC _ hF.ext).mono ?_; rintro _ w1 ⟨⟨xr, xc, xA, xn, xk, xl⟩, rfl, hL, hE, hf⟩; have hfx := hf.mono hF.ext.size; replace hF := Fr.addLM hF hE hL hf; clear hE hf hL; refine Back.mk ?_)) | (refine TL.isBin ?_; refine TL.cmpG rfl rfl rfl rfl (fun hc => ?_) (fun hc => ?_) <;> (try (first | (exfalso; omega) | exact absurd rfl hc))) | (apply TL.ev; (case hd => rfl); (case h => (first | exact ev_simple rfl | (apply Ev.isLoad; first | exact ev_loadFr hF rfl (by refine ⟨?_, ?_⟩; (focus (repeat (first | exact InV.head | apply InV.tail))); rfl) | exact ev_loadAFr hF rfl (by refine ⟨?_, ?_⟩; (focus (repeat (first | exact InV.head | apply InV.tail))); rfl)) | exact ev_fieldAddr rfl))) | (refine TL.storeAFr hF rfl rfl rfl rfl (by refine ⟨?_, ?_⟩; (focus (repeat (first | apply SetV.head | apply SetV.tail))); rfl) rfl ?_; clear hF; intro ws hF) | (refine TL.storeFr hF rfl rfl rfl rfl (by refine ⟨?_, ?_⟩; (focus (repeat (first | apply SetV.head | apply SetV.tail))); rfl) rfl ?_; clear hF; intro ws hF) | (refine TL.boxAFr hF (d := 1) (cs := [.int .i64 13, .int .i64 ar, .int .i64 ac, .slice aA an ak, .int .i64 br, .int .i64 bc, .slice bA bn bk, .slice lA0 ln0 lk0, .bool kn, .slice kA km kc, .int .i64 on, .int .i64 om, .slice pA pn pk, .slice qA qn qk, .slice sA sn sk]) rfl rfl ?_; clear hF; intro w1 b1 hF) | (refine TL.allocFr hF (d := 2) rfl rfl ?_; clear hF; intro w2 b2 hF) | (refine TL.allocFr hF (d := 3) rfl rfl ?_; clear hF; intro w3 b3 hF)) | (refine T.is ?_; first | refine T.seq ?_ | refine T.region ?_ | refine T.block ?_ | refine T.cond_t rfl ?_ | refine T.cond_f rfl ?_ | refine T.ret ?_) | (refine G.is ?_; first | refine G.next ?_ | refine G.blockN ?_) | refine TL.nil ?_)
  exact G.retC1 rfl rfl (held_agg (hF.var (by repeat (first | exact InV.head | apply InV.tail))) rfl) ⟨⟨⟨xr, xc, xA, xn, xk, xl⟩, ⟨false, ⟨none, 0, 0, []⟩⟩, ⟨none, 0, 0, []⟩, none, 0, 0, [], none, 0, 0, [], false, err⟩, rfl, aok_x (Fr.lm hF (by repeat (first | exact memH | apply memT))), hF.ext, af_x hfx⟩
set_option maxRecDepth 100000 in
theorem wants14 (w : World) (o : OV) (ho : o.kind = 14) (r c : Nat) (F : Nat → Nat → Int) (err : Int) (K : Nat)
    (hC : ∀ w1, Ext w w1 → Cl Tryz.prog 35 #[.agg (mvc o.a).toArray] w1 (RetX w1 r c F err K)) : Cl Tryz.prog 15 #[.agg (ovc o).toArray] w (RetA w (sX r c F err) K) := by
  obtain ⟨kd, ⟨ar, ac, aA, an, ak, al⟩, ⟨br, bc, bA, bn, bk, bl⟩, ⟨lA0, ln0, lk0, ll0⟩, ⟨kn, ⟨kA, km, kc, kl⟩⟩, on, om, pA, pn, pk, p, qA, qn, qk, q, sA, sn, sk, s⟩ := o
  dsimp only at ho
  subst ho
  refine enter Tryz.func15 rfl rfl rfl ?_
  have hF := Fr.refl w
  repeat' (first | (refine TL.isOp ?_; first | (refine TL.isCall ?_; refine TL.call rfl rfl ?_; first | (refine (hC _ hF.ext).mono ?_; rintro _ w1 ⟨⟨xr, xc, xA, xn, xk, xl⟩, rfl, hL, hE, hf⟩; have hfx := hf.mono hF.ext.size; replace hF := Fr.addLM hF hE hL hf; clear hE hf hL; refine Back.mk ?_)) | (refine TL.isBin ?_; refine TL.cmpG rfl rfl rfl rfl (fun hc => ?_) (fun hc => ?_) <;> (try (first | (exfalso; omega) | exact absurd rfl hc))) | (apply TL.ev; (case hd => rfl); (case h => (first | exact ev_simple rfl | (apply Ev.isLoad; first | exact ev_loadFr hF rfl (by refine ⟨?_, ?_⟩; (focus (repeat (first | exact InV.head | apply InV.tail))); rfl) | exact ev_loadAFr hF rfl (by refine ⟨?_, ?_⟩; (focus (repeat (first | exact InV.head | apply InV.tail))); rfl)) | exact ev_fieldAddr rfl))) | (refine TL.storeAFr hF rfl rfl rfl rfl (by refine ⟨?_, ?_⟩; (focus (repeat (first | apply SetV.head | apply SetV.tail))); rfl) rfl ?_; clear hF; intro ws hF) | (refine TL.storeFr hF rfl rfl rfl rfl (by refine ⟨?_, ?_⟩; (focus (repeat (first | apply SetV.head | apply SetV.tail))); rfl) rfl ?_; clear hF; intro ws hF) | (refine TL.boxAFr hF (d := 1) (cs := [.int .i64 14, .int .i64 ar, .int .i64 ac, .slice aA an ak, .int .i64 br, .int .i64 bc, .slice bA bn bk, .slice lA0 ln0 lk0, .bool kn, .slice kA km kc, .int .i64 on, .int .i64 om, .slice pA pn pk, .slice qA qn qk, .slice sA sn sk]) rfl rfl ?_; clear hF; intro w1 b1 hF) | (refine TL.allocFr hF (d := 2) rfl rfl ?_; clear hF; intro w2 b2 hF) | (refine TL.allocFr hF (d := 3) rfl rfl ?_; clear hF; intro w3 b3 hF)) | (refine T.is ?_; first | refine T.seq ?_ | refine T.region ?_ | refine T.block ?_ | refine T.cond_t rfl ?_ | refine T.cond_f rfl ?_ | refine T.ret ?_) | (refine G.is ?_; first | refine G.next ?_ | refine G.blockN ?_) | refine TL.nil ?_)
  exact G.retC1 rfl rfl (held_agg (hF.var (by repeat (first | exact InV.head | apply InV.tail))) rfl) ⟨⟨⟨xr, xc, xA, xn, xk, xl⟩, ⟨false, ⟨none, 0, 0, []⟩⟩, ⟨none, 0, 0, []⟩, none, 0, 0, [], none, 0, 0, [], false, err⟩, rfl, aok_x (Fr.lm hF (by repeat (first | exact memH | apply memT))), hF.ext, af_x hfx⟩
set_option maxRecDepth 100000 in
theorem wants15 (w : World) (o : OV) (ho : o.kind = 15) (z : Int) (err : Int) (K : Nat)
    (hC : ∀ w1, Ext w w1 → Cl Tryz.prog 36 #[.agg (mvc o.a).toArray] w1 (RetY w1 z err K)) : Cl Tryz.prog 15 #[.agg (ovc o).toArray] w (RetA w (sY z err) K) := by
  obtain ⟨kd, ⟨ar, ac, aA, an, ak, al⟩, ⟨br, bc, bA, bn, bk, bl⟩, ⟨lA0, ln0, lk0, ll0⟩, ⟨kn, ⟨kA, km, kc, kl⟩⟩, on, om, pA, pn, pk, p, qA, qn, qk, q, sA, sn, sk, s⟩ := o
  dsimp only at ho
  subst ho
  refine enter Tryz.func15 rfl rfl rfl ?_
  have hF := Fr.refl w
  repeat' (first | (refine TL.isOp ?_; first | (refine TL.isCall ?_; refine TL.call rfl rfl ?_; first | (refine (hC _ hF.ext).mono ?_; rintro _ w1 ⟨⟨yn, ⟨yA, ym, yc, yl⟩⟩, rfl, hL, hE, hK⟩; replace hF := Fr.addLI (hF.exts hE) hL; clear hE hL; refine Back.mk ?_)) | (refine TL.isBin ?_; refine TL.cmpG rfl rfl rfl rfl (fun hc => ?_) (fun hc => ?_) <;> (try (first | (exfalso; omega) | exact absurd rfl hc))) | (apply TL.ev; (case hd => rfl); (case h => (first | exact ev_simple rfl | (apply Ev.isLoad; first | exact ev_loadFr hF rfl (by refine ⟨?_, ?_⟩; (focus (repeat (first | exact InV.head | apply InV.tail))); rfl) | exact ev_loadAFr hF rfl (by refine ⟨?_, ?_⟩; (focus (repeat (first | exact InV.head | apply InV.tail))); rfl)) | exact ev_fieldAddr rfl))) | (refine TL.storeAFr hF rfl rfl rfl rfl (by refine ⟨?_, ?_⟩; (focus (repeat (first | apply SetV.head | apply SetV.tail))); rfl) rfl ?_; clear hF; intro ws hF) | (refine TL.storeFr hF rfl rfl rfl rfl (by refine ⟨?_, ?_⟩; (focus (repeat (first | apply SetV.head | apply SetV.tail))); rfl) rfl ?_; clear hF; intro ws hF) | (refine TL.boxAFr hF (d := 1) (cs := [.int .i64 15, .int .i64 ar, .int .i64 ac, .slice aA an ak, .int .i64 br, .int .i64 bc, .slice bA bn bk, .slice lA0 ln0 lk0, .bool kn, .slice kA km kc, .int .i64 on, .int .i64 om, .slice pA pn pk, .slice qA qn qk, .slice sA sn sk]) rfl rfl ?_; clear hF; intro w1 b1 hF) | (refine TL.allocFr hF (d := 2) rfl rfl ?_; clear hF; intro w2 b2 hF) | (refine TL.allocFr hF (d := 3) rfl rfl ?_; clear hF; intro w3 b3 hF)) | (refine T.is ?_; first | refine T.seq ?_ | refine T.region ?_ | refine T.block ?_ | refine T.cond_t rfl ?_ | refine T.cond_f rfl ?_ | refine T.ret ?_) | (refine G.is ?_; first | refine G.next ?_ | refine G.blockN ?_) | refine TL.nil ?_)
  exact G.retC1 rfl rfl (held_agg (hF.var (by repeat (first | exact InV.head | apply InV.tail))) rfl) ⟨⟨⟨0, 0, none, 0, 0, []⟩, ⟨yn, ⟨yA, ym, yc, yl⟩⟩, ⟨none, 0, 0, []⟩, none, 0, 0, [], none, 0, 0, [], false, err⟩, rfl, aok_y (Fr.li hF (by repeat (first | exact memH | apply memT))) hK, hF.ext, af_x mf_none⟩
set_option maxRecDepth 100000 in
theorem wants16 (w : World) (o : OV) (ho : o.kind = 16) (r c : Nat) (F : Nat → Nat → Int) (err : Int) (K : Nat)
    (hC : ∀ w1, Ext w w1 → Cl Tryz.prog 37 #[.agg (mvc o.a).toArray, .slice o.pA o.pn o.pk, .slice o.qA o.qn o.qk] w1 (RetX w1 r c F err K)) : Cl Tryz.prog 15 #[.agg (ovc o).toArray] w (RetA w (sX r c F err) K) := by
  obtain ⟨kd, ⟨ar, ac, aA, an, ak, al⟩, ⟨br, bc, bA, bn, bk, bl⟩, ⟨lA0, ln0, lk0, ll0⟩, ⟨kn, ⟨kA, km, kc, kl⟩⟩, on, om, pA, pn, pk, p, qA, qn, qk, q, sA, sn, sk, s⟩ := o
  dsimp only at ho
  subst ho
  refine enter Tryz.func15 rfl rfl rfl ?_
  have hF := Fr.refl w
  repeat' (first | (refine TL.isOp ?_; first | (refine TL.isCall ?_; refine TL.call rfl rfl ?_; first | (refine (hC _ hF.ext).mono ?_; rintro _ w1 ⟨⟨xr, xc, xA, xn, xk, xl⟩, rfl, hL, hE, hf⟩; have hfx := hf.mono hF.ext.size; replace hF := Fr.addLM hF hE hL hf; clear hE hf hL; refine Back.mk ?_)) | (refine TL.isBin ?_; refine TL.cmpG rfl rfl rfl rfl (fun hc => ?_) (fun hc => ?_) <;> (try (first | (exfalso; omega) | exact absurd rfl hc))) | (apply TL.ev; (case hd => rfl); (case h => (first | exact ev_simple rfl | (apply Ev.isLoad; first | exact ev_loadFr hF rfl (by refine ⟨?_, ?_⟩; (focus (repeat (first | exact InV.head | apply InV.tail))); rfl) | exact ev_loadAFr hF rfl (by refine ⟨?_, ?_⟩; (focus (repeat (first | exact InV.head | apply InV.tail))); rfl)) | exact ev_fieldAddr rfl))) | (refine TL.storeAFr hF rfl rfl rfl rfl (by refine ⟨?_, ?_⟩; (focus (repeat (first | apply SetV.head | apply SetV.tail))); rfl) rfl ?_; clear hF; intro ws hF) | (refine TL.storeFr hF rfl rfl rfl rfl (by refine ⟨?_, ?_⟩; (focus (repeat (first | apply SetV.head | apply SetV.tail))); rfl) rfl ?_; clear hF; intro ws hF) | (refine TL.boxAFr hF (d := 1) (cs := [.int .i64 16, .int .i64 ar, .int .i64 ac, .slice aA an ak, .int .i64 br, .int .i64 bc, .slice bA bn bk, .slice lA0 ln0 lk0, .bool kn, .slice kA km kc, .int .i64 on, .int .i64 om, .slice pA pn pk, .slice qA qn qk, .slice sA sn sk]) rfl rfl ?_; clear hF; intro w1 b1 hF) | (refine TL.allocFr hF (d := 2) rfl rfl ?_; clear hF; intro w2 b2 hF) | (refine TL.allocFr hF (d := 3) rfl rfl ?_; clear hF; intro w3 b3 hF)) | (refine T.is ?_; first | refine T.seq ?_ | refine T.region ?_ | refine T.block ?_ | refine T.cond_t rfl ?_ | refine T.cond_f rfl ?_ | refine T.ret ?_) | (refine G.is ?_; first | refine G.next ?_ | refine G.blockN ?_) | refine TL.nil ?_)
  exact G.retC1 rfl rfl (held_agg (hF.var (by repeat (first | exact InV.head | apply InV.tail))) rfl) ⟨⟨⟨xr, xc, xA, xn, xk, xl⟩, ⟨false, ⟨none, 0, 0, []⟩⟩, ⟨none, 0, 0, []⟩, none, 0, 0, [], none, 0, 0, [], false, err⟩, rfl, aok_x (Fr.lm hF (by repeat (first | exact memH | apply memT))), hF.ext, af_x hfx⟩
set_option maxRecDepth 100000 in
theorem wants17 (w : World) (o : OV) (ho : o.kind = 17) (r c : Nat) (F : Nat → Nat → Int) (err : Int) (K : Nat)
    (hC : ∀ w1, Ext w w1 → Cl Tryz.prog 38 #[.slice o.sA o.sn o.sk] w1 (RetX w1 r c F err K)) : Cl Tryz.prog 15 #[.agg (ovc o).toArray] w (RetA w (sX r c F err) K) := by
  obtain ⟨kd, ⟨ar, ac, aA, an, ak, al⟩, ⟨br, bc, bA, bn, bk, bl⟩, ⟨lA0, ln0, lk0, ll0⟩, ⟨kn, ⟨kA, km, kc, kl⟩⟩, on, om, pA, pn, pk, p, qA, qn, qk, q, sA, sn, sk, s⟩ := o
  dsimp only at ho
  subst ho
  refine enter Tryz.func15 rfl rfl rfl ?_
  have hF := Fr.refl w
  repeat' (first | (refine TL.isOp ?_; first | (refine TL.isCall ?_; refine TL.call rfl rfl ?_; first | (refine (hC _ hF.ext).mono ?_; rintro _ w1 ⟨⟨xr, xc, xA, xn, xk, xl⟩, rfl, hL, hE, hf⟩; have hfx := hf.mono hF.ext.size; replace hF := Fr.addLM hF hE hL hf; clear hE hf hL; refine Back.mk ?_)) | (refine TL.isBin ?_; refine TL.cmpG rfl rfl rfl rfl (fun hc => ?_) (fun hc => ?_) <;> (try (first | (exfalso; omega) | exact absurd rfl hc))) | (apply TL.ev; (case hd => rfl); (case h => (first | exact ev_simple rfl | (apply Ev.isLoad; first | exact ev_loadFr hF rfl (by refine ⟨?_, ?_⟩; (focus (repeat (first | exact InV.head | apply InV.tail))); rfl) | exact ev_loadAFr hF rfl (by refine ⟨?_, ?_⟩; (focus (repeat (first | exact InV.head | apply InV.tail))); rfl)) | exact ev_fieldAddr rfl))) | (refine TL.storeAFr hF rfl rfl rfl rfl (by refine ⟨?_, ?_⟩; (focus (repeat (first | apply SetV.head | apply SetV.tail))); rfl) rfl ?_; clear hF; intro ws hF) | (refine TL.storeFr hF rfl rfl rfl rfl (by refine ⟨?_, ?_⟩; (focus (repeat (first | apply SetV.head | apply SetV.tail))); rfl) rfl ?_; clear hF; intro ws hF) | (refine TL.boxAFr hF (d := 1) (cs := [.int .i64 17, .int .i64 ar, .int .i64 ac, .slice aA an ak, .int .i64 br, .int .i64 bc, .slice bA bn bk, .slice lA0 ln0 lk0, .bool kn, .slice kA km kc, .int .i64 on, .int .i64 om, .slice pA pn pk, .slice qA qn qk, .slice sA sn sk]) rfl rfl ?_; clear hF; intro w1 b1 hF) | (refine TL.allocFr hF (d := 2) rfl rfl ?_; clear hF; intro w2 b2 hF) | (refine TL.allocFr hF (d := 3) rfl rfl ?_; clear hF; intro w3 b3 hF)) | (refine T.is ?_; first | refine T.seq ?_ | refine T.region ?_ | refine T.block ?_ | refine T.cond_t rfl ?_ | refine T.cond_f rfl ?_ | refine T.ret ?_) | (refine G.is ?_; first | refine G.next ?_ | refine G.blockN ?_) | refine TL.nil ?_)
  exact G.retC1 rfl rfl (held_agg (hF.var (by repeat (first | exact InV.head | apply InV.tail))) rfl) ⟨⟨⟨xr, xc, xA, xn, xk, xl⟩, ⟨false, ⟨none, 0, 0, []⟩⟩, ⟨none, 0, 0, []⟩, none, 0, 0, [], none, 0, 0, [], false, err⟩, rfl, aok_x (Fr.lm hF (by repeat (first | exact memH | apply memT))), hF.ext, af_x hfx⟩
set_option maxRecDepth 100000 in
theorem wants18 (w : World) (o : OV) (ho : o.kind = 18) (r c : Nat) (F : Nat → Nat → Int) (err : Int) (K : Nat)
    (hC : ∀ w1, Ext w w1 → Cl Tryz.prog 39 #[.slice o.sA o.sn o.sk] w1 (RetX w1 r c F err K)) : Cl Tryz.prog 15 #[.agg (ovc o).toArray] w (RetA w (sX r c F err) K) := by
  obtain ⟨kd, ⟨ar, ac, aA, an, ak, al⟩, ⟨br, bc, bA, bn, bk, bl⟩, ⟨lA0, ln0, lk0, ll0⟩, ⟨kn, ⟨kA, km, kc, kl⟩⟩, on, om, pA, pn, pk, p, qA, qn, qk, q, sA, sn, sk, s⟩ := o
  dsimp only at ho
  subst ho
  refine enter Tryz.func15 rfl rfl rfl ?_
  have hF := Fr.refl w
  repeat' (first | (refine TL.isOp ?_; first | (refine TL.isCall ?_; refine TL.call rfl rfl ?_; first | (refine (hC _ hF.ext).mono ?_; rintro _ w1 ⟨⟨xr, xc, xA, xn, xk, xl⟩, rfl, hL, hE, hf⟩; have hfx := hf.mono hF.ext.size; replace hF := Fr.addLM hF hE hL hf; clear hE hf hL; refine Back.mk ?_)) | (refine TL.isBin ?_; refine TL.cmpG rfl rfl rfl rfl (fun hc => ?_) (fun hc => ?_) <;> (try (first | (exfalso; omega) | exact absurd rfl hc))) | (apply TL.ev; (case hd => rfl); (case h => (first | exact ev_simple rfl | (apply Ev.isLoad; first | exact ev_loadFr hF rfl (by refine ⟨?_, ?_⟩; (focus (repeat (first | exact InV.head | apply InV.tail))); rfl) | exact ev_loadAFr hF rfl (by refine ⟨?_, ?_⟩; (focus (repeat (first | exact InV.head | apply InV.tail))); rfl)) | exact ev_fieldAddr rfl))) | (refine TL.storeAFr hF rfl rfl rfl rfl (by refine ⟨?_, ?_⟩; (focus (repeat (first | apply SetV.head | apply SetV.tail))); rfl) rfl ?_; clear hF; intro ws hF) | (refine TL.storeFr hF rfl rfl rfl rfl (by refine ⟨?_, ?_⟩; (focus (repeat (first | apply SetV.head | apply SetV.tail))); rfl) rfl ?_; clear hF; intro ws hF) | (refine TL.boxAFr hF (d := 1) (cs := [.int .i64 18, .int .i64 ar, .int .i64 ac, .slice aA an ak, .int .i64 br, .int .i64 bc, .slice bA bn bk, .slice lA0 ln0 lk0, .bool kn, .slice kA km kc, .int .i64 on, .int .i64 om, .slice pA pn pk, .slice qA qn qk, .slice sA sn sk]) rfl rfl ?_; clear hF; intro w1 b1 hF) | (refine TL.allocFr hF (d := 2) rfl rfl ?_; clear hF; intro w2 b2 hF) | (refine TL.allocFr hF (d := 3) rfl rfl ?_; clear hF; intro w3 b3 hF)) | (refine T.is ?_; first | refine T.seq ?_ | refine T.region ?_ | refine T.block ?_ | refine T.cond_t rfl ?_ | refine T.cond_f rfl ?_ | refine T.ret ?_) | (refine G.is ?_; first | refine G.next ?_ | refine G.blockN ?_) | refine TL.nil ?_)
  exact G.retC1 rfl rfl (held_agg (hF.var (by repeat (first | exact InV.head | apply InV.tail))) rfl) ⟨⟨⟨xr, xc, xA, xn, xk, xl⟩, ⟨false, ⟨none, 0, 0, []⟩⟩, ⟨none, 0, 0, []⟩, none, 0, 0, [], none, 0, 0, [], false, err⟩, rfl, aok_x (Fr.lm hF (by repeat (first | exact memH | apply memT))), hF.ext, af_x hfx⟩
set_option maxRecDepth 100000 in
theorem wants19 (w : World) (o : OV) (ho : o.kind = 19) (r c : Nat) (F : Nat → Nat → Int) (err : Int) (K : Nat)
    (hC : ∀ w1, Ext w w1 → Cl Tryz.prog 40 #[.agg (mvc o.a).toArray, .agg (mvc o.b).toArray] w1 (RetX w1 r c F err K)) : Cl Tryz.prog 15 #[.agg (ovc o).toArray] w (RetA w (sX r c F err) K) := by
  obtain ⟨kd, ⟨ar, ac, aA, an, ak, al⟩, ⟨br, bc, bA, bn, bk, bl⟩, ⟨lA0, ln0, lk0, ll0⟩, ⟨kn, ⟨kA, km, kc, kl⟩⟩, on, om, pA, pn, pk, p, qA, qn, qk, q, sA, sn, sk, s⟩ := o
  dsimp only at ho
  subst ho
  refine enter Tryz.func15 rfl rfl rfl ?_
  have hF := Fr.refl w
  repeat' (first | (refine TL.isOp ?_; first | (refine TL.isCall ?_; refine TL.call rfl rfl ?_; first | (refine (hC _ hF.ext).mono ?_; rintro _ w1 ⟨⟨xr, xc, xA, xn, xk, xl⟩, rfl, hL, hE, hf⟩; have hfx := hf.mono hF.ext.size; replace hF := Fr.addLM hF hE hL hf; clear hE hf hL; refine Back.mk ?_)) | (refine TL.isBin ?_; refine TL.cmpG rfl rfl rfl rfl (fun hc => ?_) (fun hc => ?_) <;> (try (first | (exfalso; omega) | exact absurd rfl hc))) | (apply TL.ev; (case hd => rfl); (case h => (first | exact ev_simple rfl | (apply Ev.isLoad; first | exact ev_loadFr hF rfl (by refine ⟨?_, ?_⟩; (focus (repeat (first | exact InV.head | apply InV.tail))); rfl) | exact ev_loadAFr hF rfl (by refine ⟨?_, ?_⟩; (focus (repeat (first | exact InV.head | apply InV.tail))); rfl)) | exact ev_fieldAddr rfl))) | (refine TL.storeAFr hF rfl rfl rfl rfl (by refine ⟨?_, ?_⟩; (focus (repeat (first | apply SetV.head | apply SetV.tail))); rfl) rfl ?_; clear hF; intro ws hF) | (refine TL.storeFr hF rfl rfl rfl rfl (by refine ⟨?_, ?_⟩; (focus (repeat (first | apply SetV.head | apply SetV.tail))); rfl) rfl ?_; clear hF; intro ws hF) | (refine TL.boxAFr hF (d := 1) (cs := [.int .i64 19, .int .i64 ar, .int .i64 ac, .slice aA an ak, .int .i64 br, .int .i64 bc, .slice bA bn bk, .slice lA0 ln0 lk0, .bool kn, .slice kA km kc, .int .i64 on, .int .i64 om, .slice pA pn pk, .slice qA qn qk, .slice sA sn sk]) rfl rfl ?_; clear hF; intro w1 b1 hF) | (refine TL.allocFr hF (d := 2) rfl rfl ?_; clear hF; intro w2 b2 hF) | (refine TL.allocFr hF (d := 3) rfl rfl ?_; clear hF; intro w3 b3 hF)) | (refine T.is ?_; first | refine T.seq ?_ | refine T.region ?_ | refine T.block ?_ | refine T.cond_t rfl ?_ | refine T.cond_f rfl ?_ | refine T.ret ?_) | (refine G.is ?_; first | refine G.next ?_ | refine G.blockN ?_) | refine TL.nil ?_)
  exact G.retC1 rfl rfl (held_agg (hF.var (by repeat (first | exact InV.head | apply InV.tail))) rfl) ⟨⟨⟨xr, xc, xA, xn, xk, xl⟩, ⟨false, ⟨none, 0, 0, []⟩⟩, ⟨none, 0, 0, []⟩, none, 0, 0, [], none, 0, 0, [], false, err⟩, rfl, aok_x (Fr.lm hF (by repeat (first | exact memH | apply memT))), hF.ext, af_x hfx⟩
end Go.Proofs.YtlhmehikajidhaaGreat
namespace Go.N16
open Go
theorem W_pow (k : Nat) : 65536 ^ k = 2 ^ (16 * k) := by rw [show (65536 : Nat) = 2 ^ 16 by rfl, ← Nat.pow_mul]
theorem bl_val {l : List Nat} (h : U64 l) (hs : sz l ≠ 0) : NatM.bl (val l) = 16 * (sz l - 1) + NatM.bl (l.getD (sz l - 1) 0) := by
  obtain ⟨k, hk⟩ : ∃ k, sz l = k + 1 := ⟨sz l - 1, by omega⟩
  have ht := (sz_top l).resolve_left hs
  rw [← val_sz l, hk, val_take_succ, W_pow]
  rw [hk] at ht
  simp only [Nat.add_sub_cancel] at ht ⊢
  exact NatM.bl_append _ (by rw [← W_pow]; exact h.take_lt k) ht
theorem val_eq_zero {l : List Nat} (h : sz l = 0) : val l = 0 := by rw [← val_sz l, h]; rfl
theorem val_set : ∀ (l : List Nat) (k s : Nat), k < l.length → val (l.set k s) + 65536 ^ k * l.getD k 0 = val l + 65536 ^ k * s
  | [], k, s, h => by simp at h
  | x :: l, 0, s, h => by simp [val, List.getD]; omega
  | x :: l, k + 1, s, h => by
    have ih := val_set l k s (by simpa using h)
    have e : (x :: l).getD (k + 1) 0 = l.getD k 0 := by simp [List.getD]
    rw [List.set_cons_succ, e, val, val, Nat.pow_succ, Nat.mul_comm (65536 ^ k), Nat.mul_assoc, Nat.mul_assoc]
    omega
theorem rows_step {vY vZ vS Wi Wj x y t cy cy' s z : Nat} (hset : vS + (Wi * Wj) * z = vY + (Wi * Wj) * s) (hv : vY + (Wi * Wj) * cy = vZ + Wi * (x * t)) (e : s + 65536 * cy' = x * y + cy + z) :
    vS + (Wi * (Wj * 65536)) * cy' = vZ + Wi * (x * (t + Wj * y)) := by
  have e1 : (Wi * (Wj * 65536)) * cy' = (Wi * Wj) * (65536 * cy') := by rw [← Nat.mul_assoc Wi, Nat.mul_assoc (Wi * Wj)]
  have e2 : Wi * (x * (t + Wj * y)) = Wi * (x * t) + (Wi * Wj) * (x * y) := by
    rw [Nat.mul_add x, Nat.mul_add Wi, Nat.mul_left_comm x Wj y, Nat.mul_assoc Wi Wj]
  have e3 : (Wi * Wj) * s + (Wi * Wj) * (65536 * cy') = (Wi * Wj) * (x * y) + (Wi * Wj) * cy + (Wi * Wj) * z := by rw [← Nat.mul_add, e, Nat.mul_add, Nat.mul_add]
  rw [e1, e2]
  generalize (Wi * Wj) * (65536 * cy') = q1 at *
  generalize (Wi * Wj) * s = q2 at *
  generalize (Wi * Wj) * (x * y) = q3 at *
  generalize (Wi * Wj) * cy = q4 at *
  generalize (Wi * Wj) * z = q5 at *
  omega
def wq (X : List Nat) (j q : Nat) : Nat := val ((X.drop (max j (4 * q))).take (4 * q + 4 - max j (4 * q)))
theorem wq_lt {X : List Nat} (h : U64 X) (j q : Nat) : wq X j q < 65536 ^ (4 * q + 4 - max j (4 * q)) := NatM.part16_lt h _ _
theorem wq_lt3 {X : List Nat} (h : U64 X) (j : Nat) : wq X (j + 1) (j / 4) < 281474976710656 := by
  have h1 := wq_lt h (j + 1) (j / 4)
  have h2 : 65536 ^ (4 * (j / 4) + 4 - max (j + 1) (4 * (j / 4))) ≤ 65536 ^ 3 := Nat.pow_le_pow_right (by omega) (by omega)
  omega
theorem wq_other {X : List Nat} {j q : Nat} (h : q ≠ j / 4) : wq X (j + 1) q = wq X j q := by
  unfold wq
  rcases Nat.lt_or_ge q (j / 4) with h1 | h1
  · rw [show 4 * q + 4 - max (j + 1) (4 * q) = 0 by omega, show 4 * q + 4 - max j (4 * q) = 0 by omega]; simp
  · rw [show max (j + 1) (4 * q) = 4 * q by omega, show max j (4 * q) = 4 * q by omega]
theorem wq_same (X : List Nat) (j : Nat) : wq X (j + 1) (j / 4) * 65536 + X.getD j 0 = wq X j (j / 4) := by
  unfold wq
  rw [show max (j + 1) (4 * (j / 4)) = j + 1 by omega, show max j (4 * (j / 4)) = j by omega, show 4 * (j / 4) + 4 - j = (4 * (j / 4) + 4 - (j + 1)) + 1 by omega, NatM.part16_succ]
  omega
def wqs (X : List Nat) (m j : Nat) : List Nat := (List.range m).map (wq X j)
theorem wqs_len (X : List Nat) (m j : Nat) : (wqs X m j).length = m := by simp [wqs]
theorem wqs_get (X : List Nat) {m j q : Nat} (h : q < m) : (wqs X m j).getD q 0 = wq X j q := by simp [wqs, List.getD, h]
theorem wqs_set (X : List Nat) {m j : Nat} (h : j / 4 < m) : (wqs X m (j + 1)).set (j / 4) (wq X (j + 1) (j / 4) * 65536 + X.getD j 0) = wqs X m j := by
  apply List.ext_getElem
  · simp [wqs]
  · intro q h1 h2
    simp only [wqs, List.getElem_set, List.getElem_map, List.getElem_range]
    split
    · rename_i hq; subst hq; exact wq_same X j
    · rename_i hq; exact wq_other (fun e => hq e.symm)
theorem wqs_zero {X : List Nat} {m j : Nat} (h : X.length ≤ j) : wqs X m j = List.replicate m 0 := by
  apply List.ext_getElem
  · simp [wqs]
  · intro q h1 h2
    simp only [wqs, List.getElem_map, List.getElem_range, List.getElem_replicate, wq]
    rw [List.drop_of_length_le (by omega)]; simp [val]
theorem wqs_val (X : List Nat) : ∀ m, NatM.val (wqs X m 0) = val (X.take (4 * m))
  | 0 => by simp [wqs, NatM.val, val]
  | m + 1 => by
    have e : wqs X (m + 1) 0 = wqs X m 0 ++ [wq X 0 m] := by simp [wqs, List.range_succ]
    rw [e, NatM.val_snoc, wqs_len, wqs_val X m, NatM.take16_four]
    unfold wq
    rw [show max 0 (4 * m) = 4 * m by omega, show 4 * m + 4 - 4 * m = 4 by omega]
theorem wqs_U {X : List Nat} (h : U64 X) (m j : Nat) : NatM.U64 (wqs X m j) := by
  intro y hy
  simp only [wqs, List.mem_map] at hy
  obtain ⟨q, _, rfl⟩ := hy
  have h1 := wq_lt h j q
  have h2 : 65536 ^ (4 * q + 4 - max j (4 * q)) ≤ 65536 ^ 4 := Nat.pow_le_pow_right (by omega) (by omega)
  omega
end Go.N16
namespace Go.Proofs.YtlhmehikajidhaaGreat
open Go Go.Eng Go.Proofs Go.NatM Go.RowKit
theorem set_zeros_at {D : List Nat} {p r x : Nat} (h : D.length = p) : (D ++ List.replicate (r + 1) 0).set p x = (D ++ [x]) ++ List.replicate r 0 := by subst h; exact N16.set_zeros D r x
theorem rdig_ok (w : World) (B : Nat) (A : Option Addr) (n c : Nat) (l : List Nat) (hs : Sl u64v w.heap B A n c l) (hu : U64 l) (hn : n ≤ 1099511627776) :
    Cl Tryz.prog 125 #[.slice A n c] w (RetI w (N16.dig (val l)) (4 * n)) := by
  have hlen := hs.len
  replace hs := hs.size
  refine enter Tryz.func125 rfl rfl rfl ?_
  repeat' (first | refine TL.ev (ev_simple rfl) rfl ?_ | refine TL.ev (ev_len rfl) rfl ?_ | refine TL.ev (ev_arN rfl rfl rfl (by omega)) rfl ?_ | (refine TL.makeN rfl rfl rfl (by omega) (by omega) (fun w1 b1 eb hB hE hz => ?_)) | refine T.seq ?_ | refine T.region ?_ | refine TL.nil ?_ | refine T.block ?_ | refine G.next ?_)
  refine T.loop (α := Nat × List Nat) (fun x => [(0, .slice A n c), (3, .slice (some ⟨b1, 0, none⟩) (4 * n) (4 * n)), (4, .int .i64 (x.1 : Int))])
    (fun x w' => x.1 ≤ n ∧ Ext w w' ∧ x.2.length = 4 * x.1 ∧ Bk n64v w'.heap b1 3 (x.2 ++ List.replicate (4 * n - 4 * x.1) 0) ∧ N16.U64 x.2 ∧ N16.val x.2 = val (l.take x.1))
    (fun x => n - x.1) (0, []) (by repeat (first | exact Sub.nil _ | refine Sub.cons rfl ?_ | refine Sub.cons' rfl (int_congr (by omega)) ?_)) ⟨Nat.zero_le _, hE, rfl, by simpa using hB, N16.U64.nil, rfl⟩ ?_
  rintro ⟨i, D⟩ w2 ⟨hi, hE2, hD, hB2, hDu, hv⟩
  dsimp only at hi hE2 hD hB2 hDu hv ⊢
  have t1 := hs.ext hE2
  rcases Nat.lt_or_ge i n with hin | hin
  · have hx := hu.getD i
    repeat' (first | refine TL.ev (ev_simple rfl) rfl ?_ | refine TL.ev (ev_len rfl) rfl ?_ | (refine TL.cmpG rfl rfl rfl rfl (fun hc => ?_) (fun hc => ?_) <;> try (exfalso; omega)) | refine TL.ev (ev_indexN rfl rfl (by omega) (by first | exact Or.inr rfl | exact Sl.some (by assumption))) rfl ?_ | refine TL.ev (ev_loadU rfl (by assumption) (by omega)) rfl ?_ | refine T.seq ?_ | refine T.region ?_ | refine TL.nil ?_ | refine T.block ?_ | refine T.cond_t rfl ?_ | refine T.skip ?_ | refine G.next ?_)
    refine T.loop (α := Nat) (fun k => [(0, .slice A n c), (3, .slice (some ⟨b1, 0, none⟩) (4 * n) (4 * n)), (4, .int .i64 (i : Int)), (5, .int .u64 ((l.getD i 0 / 65536 ^ k : Nat) : Int)), (6, .int .i64 (k : Int))])
      (fun k w' => k ≤ 4 ∧ Ext w w' ∧ Bk n64v w'.heap b1 3 ((D ++ fourK (l.getD i 0) k) ++ List.replicate (4 * n - 4 * i - k) 0))
      (fun k => 4 - k) 0 (by rw [Nat.pow_zero, Nat.div_one]; exact (by repeat (first | exact Sub.nil _ | refine Sub.cons rfl ?_ | refine Sub.cons' rfl (int_congr (by omega)) ?_))) ⟨by omega, hE2, by simpa [fourK] using hB2⟩ ?_
    rintro k w3 ⟨hk, hE3, hB3⟩
    have hlk : (D ++ fourK (l.getD i 0) k).length = 4 * i + k := by rw [List.length_append, fourK_len, hD]
    have hlB : ((D ++ fourK (l.getD i 0) k) ++ List.replicate (4 * n - 4 * i - k) 0).length = 4 * n := by rw [List.length_append, hlk, List.length_replicate]; omega
    rcases Nat.lt_or_ge k 4 with hk4 | hk4
    · have hx2 : l.getD i 0 / 65536 ^ k < 18446744073709551616 := Nat.lt_of_le_of_lt (Nat.div_le_self _ _) hx
      repeat' (first | refine TL.ev (ev_simple rfl) rfl ?_ | (refine TL.cmpG rfl rfl rfl rfl (fun hc => ?_) (fun hc => ?_) <;> try (exfalso; omega)) | refine TL.ev (ev_arN rfl rfl rfl (by omega)) rfl ?_ | refine TL.ev (ev_indexN rfl rfl (by omega) (by first | exact Or.inr rfl | exact Sl.some (by assumption))) rfl ?_ | refine TL.ev (ev_convI rfl (by omega)) rfl ?_ | refine TL.ev (ev_arU rfl rfl rfl (by first | exact True.intro | omega)) rfl ?_ | (refine TL.storeN rfl rfl hB3 (by rw [hlB]; omega) (fun w5 hB5 hU => ?_)) | refine T.seq ?_ | refine T.region ?_ | refine TL.nil ?_ | refine T.block ?_ | refine T.cond_t rfl ?_ | refine T.skip ?_ | refine G.next ?_ | refine G.blockN ?_)
      rw [show 4 * n - 4 * i - k = (4 * n - 4 * i - (k + 1)) + 1 by omega, set_zeros_at hlk, List.append_assoc D (fourK _ _), ← fourK_succ] at hB5
      exact G.again (k + 1) (by rw [Nat.pow_succ, ← Nat.div_div_eq_div_mul]; exact (by repeat (first | exact Sub.nil _ | refine Sub.cons rfl ?_ | refine Sub.cons' rfl (int_congr (by omega)) ?_))) ⟨by omega, hE3.upd hU (by omega), hB5⟩ (by omega)
    · obtain rfl : k = 4 := by omega
      repeat' (first | refine TL.ev (ev_simple rfl) rfl ?_ | (refine TL.cmpG rfl rfl rfl rfl (fun hc => ?_) (fun hc => ?_) <;> try (exfalso; omega)) | refine TL.ev (ev_arN rfl rfl rfl (by omega)) rfl ?_ | refine T.seq ?_ | refine T.region ?_ | refine TL.nil ?_ | refine T.cond_f rfl ?_ | refine T.exit ?_ | refine G.next ?_ | refine G.blockN ?_ | refine G.blockE ?_ | refine G.thenE ?_)
      rw [show 4 * n - 4 * i - 4 = 4 * n - 4 * (i + 1) by omega] at hB3
      refine G.again (i + 1, D ++ fourK (l.getD i 0) 4) (by repeat (first | exact Sub.nil _ | refine Sub.cons rfl ?_ | refine Sub.cons' rfl (int_congr (by omega)) ?_)) ⟨by dsimp only; omega, hE3, by dsimp only; omega, hB3, hDu.append (U_fourK _ _), ?_⟩ (by dsimp only; omega)
      dsimp only
      rw [N16.val_append, hD, W_pow4, val_fourK hx, hv, val_take_succ]
  · obtain rfl : i = n := by omega
    have e : l.take i = l := List.take_of_length_le (by omega)
    rw [e] at hv
    rw [Nat.sub_self, List.replicate_zero, List.append_nil] at hB2
    have hS := hB2.slN (n := 4 * i) (c := 4 * i) hD (Nat.le_refl _) hB2.lt
    have hzle := N16.sz_le D
    repeat' (first | refine TL.ev (ev_simple rfl) rfl ?_ | refine TL.ev (ev_len rfl) rfl ?_ | (refine TL.cmpG rfl rfl rfl rfl (fun hc => ?_) (fun hc => ?_) <;> try (exfalso; omega)) | refine T.seq ?_ | refine T.region ?_ | refine TL.nil ?_ | refine T.block ?_ | refine T.cond_f rfl ?_ | refine T.exit ?_ | refine G.next ?_ | refine G.blockE ?_ | refine G.thenE ?_)
    refine T.loop (fun k : Nat => [(3, .slice (some ⟨b1, 0, none⟩) (4 * i) (4 * i)), (7, .int .i64 (k : Int))]) (fun k w' => w' = w2 ∧ k ≤ 4 * i ∧ ∀ j, k ≤ j → D.getD j 0 = 0) (fun k => k) (4 * i) (by repeat (first | exact Sub.nil _ | refine Sub.cons rfl ?_ | refine Sub.cons' rfl (int_congr (by omega)) ?_)) ⟨rfl, Nat.le_refl _, fun j hj => N16.getD_ge (by omega)⟩ ?_
    rintro k w' ⟨rfl, hk, hz0⟩
    have fin : k = N16.sz D → Ow n64v w'.heap w.heap.size 3 (some ⟨b1, 0, none⟩) k (4 * i) (N16.dig (val l)) := fun hks => by
      have := hB2.ow (lo := w.heap.size) (k := k) (c := 4 * i) (by omega) hD.symm (by unfold maxLen; omega) (by omega)
      rwa [hks, N16.take_sz hDu, hv, ← hks] at this
    repeat' (first | refine TL.ev (ev_simple rfl) rfl ?_ | refine TL.grun rfl rfl rfl ?_ | refine TL.gskip rfl rfl rfl rfl ?_ | (refine TL.cmpG rfl rfl rfl rfl (fun hc => ?_) (fun hc => ?_) <;> try (exfalso; omega)) | refine TL.ev (ev_arN rfl rfl rfl (by omega)) rfl ?_ | refine TL.ev (ev_indexN rfl rfl (by omega) (by first | exact Or.inr rfl | exact Sl.some (by assumption))) rfl ?_ | refine TL.ev (ev_loadN rfl (by assumption) (by omega)) rfl ?_ | refine TL.ev (ev_sl_h rfl rfl (by omega)) rfl ?_ | refine T.seq ?_ | refine T.region ?_ | refine TL.nil ?_ | refine T.block ?_ | refine T.cond_t rfl ?_ | refine T.cond_f rfl ?_ | refine T.exit ?_ | refine T.ret ?_ | refine T.skip ?_ | refine G.next ?_ | refine G.blockN ?_ | refine G.blockE ?_ | refine G.thenE ?_)
    · refine G.again (k - 1) (by repeat (first | exact Sub.nil _ | refine Sub.cons rfl ?_ | refine Sub.cons' rfl (int_congr (by omega)) ?_)) ⟨rfl, by omega, fun j hj => ?_⟩ (by omega)
      rcases Nat.lt_or_ge j k with h | h
      · obtain rfl : j = k - 1 := by omega
        omega
      · exact hz0 j h
    · exact G.ret1 rfl rfl (RetI.mk (fin (N16.sz_eq D k (by omega) hz0 (.inr (by omega))).symm) hE2 (by omega))
    · exact G.ret1 rfl rfl (RetI.mk (fin (N16.sz_eq D k (by omega) hz0 (.inl (by omega))).symm) hE2 (by omega))
theorem rwords_ok (w : World) (B : Nat) (A : Option Addr) (n c : Nat) (X : List Nat) (hs : Sl n64v w.heap B A n c X) (hu : N16.U64 X) (hn : n ≤ 4398046511104) :
    Cl Tryz.prog 126 #[.slice A n c] w (RetN w (dig (N16.val X)) ((n + 3) / 4)) := by
  have hlen := hs.len
  replace hs := hs.size
  refine enter Tryz.func126 rfl rfl rfl ?_
  repeat' (first | refine TL.ev (ev_simple rfl) rfl ?_ | refine TL.ev (ev_len rfl) rfl ?_ | refine TL.ev (ev_arN rfl rfl rfl (by omega)) rfl ?_ | refine TL.ev (ev_arI rfl rfl rfl (by omega)) rfl ?_ | (refine TL.makeU rfl rfl rfl (by omega) (by omega) (fun w1 b1 eb hB hE hz => ?_)) | refine T.seq ?_ | refine T.region ?_ | refine TL.nil ?_ | refine T.block ?_ | refine G.next ?_)
  generalize hm : (n + 3) / 4 = m at *
  refine T.loop (α := Nat) (fun j => [(0, .slice A n c), (3, .slice (some ⟨b1, 0, none⟩) m m), (4, .int .i64 ((j : Int) - 1))])
    (fun j w' => j ≤ n ∧ Ext w w' ∧ Bk u64v w'.heap b1 42 (N16.wqs X m j))
    (fun j => j) n (by repeat (first | exact Sub.nil _ | refine Sub.cons rfl ?_ | refine Sub.cons' rfl (int_congr (by omega)) ?_)) ⟨Nat.le_refl _, hE, by rw [N16.wqs_zero (by omega)]; exact hB⟩ ?_
  rintro j w2 ⟨hj, hE2, hB2⟩
  have t1 := hs.ext hE2
  rcases Nat.eq_zero_or_pos j with h0 | h0
  · subst h0
    have hv := N16.wqs_val X m
    rw [List.take_of_length_le (by omega)] at hv
    have hDu := N16.wqs_U hu m 0
    have hD := N16.wqs_len X m 0
    generalize N16.wqs X m 0 = D at *
    have hS := hB2.slN (n := m) (c := m) hD (Nat.le_refl _) hB2.lt
    have hzle := sz_le D
    repeat' (first | refine TL.ev (ev_simple rfl) rfl ?_ | refine TL.ev (ev_len rfl) rfl ?_ | (refine TL.cmpG rfl rfl rfl rfl (fun hc => ?_) (fun hc => ?_) <;> try (exfalso; omega)) | refine T.seq ?_ | refine T.region ?_ | refine TL.nil ?_ | refine T.block ?_ | refine T.cond_f rfl ?_ | refine T.exit ?_ | refine G.next ?_ | refine G.blockE ?_ | refine G.thenE ?_)
    refine T.loop (fun k : Nat => [(3, .slice (some ⟨b1, 0, none⟩) m m), (5, .int .i64 (k : Int))]) (fun k w' => w' = w2 ∧ k ≤ m ∧ ∀ j, k ≤ j → D.getD j 0 = 0) (fun k => k) m (by repeat (first | exact Sub.nil _ | refine Sub.cons rfl ?_ | refine Sub.cons' rfl (int_congr (by omega)) ?_)) ⟨rfl, Nat.le_refl _, fun j hj => getD_ge (by omega)⟩ ?_
    rintro k w' ⟨rfl, hk, hz0⟩
    have fin : k = sz D → Ow u64v w'.heap w.heap.size 42 (some ⟨b1, 0, none⟩) k m (dig (N16.val X)) := fun hks => by
      have := hB2.ow (lo := w.heap.size) (k := k) (c := m) (by omega) hD.symm (by unfold maxLen; omega) (by omega)
      rwa [hks, take_sz hDu, hv, ← hks] at this
    repeat' (first | refine TL.ev (ev_simple rfl) rfl ?_ | refine TL.grun rfl rfl rfl ?_ | refine TL.gskip rfl rfl rfl rfl ?_ | (refine TL.cmpG rfl rfl rfl rfl (fun hc => ?_) (fun hc => ?_) <;> try (exfalso; omega)) | refine TL.ev (ev_arN rfl rfl rfl (by omega)) rfl ?_ | refine TL.ev (ev_indexN rfl rfl (by omega) (by first | exact Or.inr rfl | exact Sl.some (by assumption))) rfl ?_ | refine TL.ev (ev_loadU rfl (by assumption) (by omega)) rfl ?_ | refine TL.ev (ev_sl_h rfl rfl (by omega)) rfl ?_ | refine T.seq ?_ | refine T.region ?_ | refine TL.nil ?_ | refine T.block ?_ | refine T.cond_t rfl ?_ | refine T.cond_f rfl ?_ | refine T.exit ?_ | refine T.ret ?_ | refine T.skip ?_ | refine G.next ?_ | refine G.blockN ?_ | refine G.blockE ?_ | refine G.thenE ?_)
    · refine G.again (k - 1) (by repeat (first | exact Sub.nil _ | refine Sub.cons rfl ?_ | refine Sub.cons' rfl (int_congr (by omega)) ?_)) ⟨rfl, by omega, fun j hj => ?_⟩ (by omega)
      rcases Nat.lt_or_ge j k with h | h
      · obtain rfl : j = k - 1 := by omega
        omega
      · exact hz0 j h
    · exact G.ret1 rfl rfl (RetN.mk (fin (sz_eq D k (by omega) hz0 (.inr (by omega))).symm) hE2 (by omega))
    · exact G.ret1 rfl rfl (RetN.mk (fin (sz_eq D k (by omega) hz0 (.inl (by omega))).symm) hE2 (by omega))
  · obtain ⟨i, rfl⟩ : ∃ i, j = i + 1 := ⟨j - 1, by omega⟩
    rw [show ((i + 1 : Nat) : Int) - 1 = (i : Int) by omega]
    have hx := hu.getD i
    have h3 := N16.wq_lt3 hu i
    have hi4 : i / 4 < m := by omega
    have hg := N16.wqs_get X (j := i + 1) hi4
    have hl := N16.wqs_len X m (i + 1)
    have hS := hB2.slN (n := m) (c := m) hl (Nat.le_refl _) hB2.lt
    have hset := N16.wqs_set X hi4
    rw [← hg] at h3 hset
    generalize N16.wqs X m (i + 1) = D at *
    repeat' (first | refine TL.ev (ev_simple rfl) rfl ?_ | (refine TL.cmpG rfl rfl rfl rfl (fun hc => ?_) (fun hc => ?_) <;> try (exfalso; omega)) | refine TL.ev (ev_arI rfl rfl rfl (by omega)) rfl ?_ | refine TM.f rfl (fun _ => ev_simple rfl) rfl ?_ | refine TM.f rfl (fun _ => ev_arN rfl rfl rfl (by omega)) rfl ?_ | refine TM.f rfl (fun _ => ev_indexN rfl rfl (by omega) (by first | exact Or.inr rfl | exact Sl.some (by assumption))) rfl ?_ | refine TM.s rfl (ev_loadU rfl (by assumption) (by omega)) rfl ?_ | refine TM.s rfl (ev_loadN rfl (by assumption) (by omega)) rfl ?_ | refine TM.f rfl (fun _ => ev_convU rfl (by omega)) rfl ?_ | refine TM.f rfl (fun _ => ev_arU rfl rfl rfl (by first | exact True.intro | omega)) rfl ?_ | refine T.regionM [(0, 0), (1, 0), (2, 0), (3, 0), (4, 0), (5, 0), (6, 0), (9, 0), (10, 0), (11, 0), (7, 1), (8, 0), (12, 1), (13, 0), (14, 0), (15, 0), (16, 2)] mixed (by kernel_rfl) ?_ | (refine TL.storeU (u := D.getD (i / 4) 0 * 65536 + X.getD i 0) (eu := ⟨by omega⟩) rfl rfl (by exact hB2) (by omega) (fun w5 hB5 hU => ?_)) | refine T.seq ?_ | refine T.region ?_ | refine TL.nil ?_ | refine T.block ?_ | refine T.cond_t rfl ?_ | refine T.skip ?_ | refine G.next ?_ | refine G.blockN ?_ | refine G.only ?_ | refine G.mixed ?_ | refine TM.nil ?_ | refine TM.e rfl ?_)
    rw [hset] at hB5
    exact G.again i (by repeat (first | exact Sub.nil _ | refine Sub.cons rfl ?_ | refine Sub.cons' rfl (int_congr (by omega)) ?_)) ⟨by omega, (hE2.drewN _).upd hU (by omega), hB5⟩ (by omega)
end Go.Proofs.YtlhmehikajidhaaGreat
namespace Go.Proofs.YtlhmehikajidhaaGreat
open Go Go.Eng Go.Proofs Go.NatM Go.RowKit
theorem radd_ok (w : World) (B B' : Nat) (A A' : Option Addr) (n c n' c' : Nat) (l l' : List Nat) (hs : Sl u64v w.heap B A n c l) (hs' : Sl u64v w.heap B' A' n' c' l') (hu : U64 l) (hu' : U64 l') (hn : n ≤ 1048576000) (hn' : n' ≤ 1048576000) :
    Cl Tryz.prog 104 #[.slice A n c, .slice A' n' c'] w (RetN w (dig (val l + val l')) (max n n' + 2)) := by
  refine enter Tryz.func104 rfl rfl rfl ?_
  repeat' (first | refine TL.ev (ev_simple rfl) rfl ?_ | (refine TL.call rfl rfl ?_; first | (refine (split_ok _ _ _ _ _ _ hs hu (by omega)).mono ?_; rintro _ w1 ⟨A1, n1, c1, rfl, hO1, hE1, hK1⟩; refine Back.mk ?_; have hs2' := hs'.ext hE1) | (refine (split_ok _ _ _ _ _ _ hs2' hu' (by omega)).mono ?_; rintro _ w2 ⟨A2, n2, c2, rfl, hO2, hE2, hK2⟩; refine Back.mk ?_; have g1 := (hO1.ext hE2).sl (Nat.le_refl _); have g2 := hO2.sl (Nat.le_refl _); have hl1 := g1.len; have hl2 := g2.len; have ux := N16.U64_dig (val l); have uy := N16.U64_dig (val l'); have vx := N16.val_dig (val l); have vy := N16.val_dig (val l'))) | refine TL.ev (ev_len rfl) rfl ?_ | (refine TL.cmpG rfl rfl rfl rfl (fun hc => ?_) (fun hc => ?_) <;> try (exfalso; omega)) | refine TL.ev (ev_arN rfl rfl rfl (by omega)) rfl ?_ | (refine TL.makeN rfl rfl rfl (by omega) (by omega) (fun w3 b3 eb hB3 hE3 hz => ?_)) | refine T.seq ?_ | refine T.region ?_ | refine TL.nil ?_ | refine T.block ?_ | refine T.cond_t rfl ?_ | refine T.cond_f rfl ?_ | refine T.skip ?_ | refine G.next ?_)
  · generalize N16.dig (val l) = X at *
    generalize N16.dig (val l') = Y at *
    have hE13 := (hE1.trans hE2).trans hE3
    refine T.loop (α := Nat × List Nat × Nat) (fun x => [(5, .slice A1 n1 c1), (6, .slice A2 n2 c2), (7, .int .i64 (n2 : Int)), (8, .slice (some ⟨b3, 0, none⟩) (n2 + 1) (n2 + 1)), (9, .int .i64 (x.2.2 : Int)), (10, .int .i64 (x.1 : Int))])
      (fun x w' => x.1 ≤ n2 ∧ x.2.1.length = x.1 ∧ N16.U64 x.2.1 ∧ x.2.2 ≤ 1 ∧ Ext w2 w' ∧ (Bk n64v w'.heap b3 3 (x.2.1 ++ List.replicate (n2 - x.1 + 1) 0)  ∧ True) ∧ N16.val x.2.1 + 65536 ^ x.1 * x.2.2 = N16.val (X.take x.1) + N16.val (Y.take x.1))
      (fun x => n2 - x.1) (0, [], 0) (by repeat (first | exact Sub.nil _ | refine Sub.cons rfl ?_ | refine Sub.cons' rfl (int_congr (by omega)) ?_)) ⟨Nat.zero_le _, rfl, N16.U64.nil, Nat.zero_le _, hE3, ⟨by simpa using hB3, trivial⟩, by simp [N16.val]⟩ ?_
    rintro ⟨i, D, cy⟩ w4 ⟨hi, hD, hDu, hcy, hE4, ⟨hB4, _⟩, hv⟩
    dsimp only at hi hD hDu hcy hB4 hv ⊢
    have e1 := g1.ext hE4
    have e2 := g2.ext hE4
    have hW4 := (hE1.trans hE2).trans hE4
    have x1 := ux.getD i
    have x2 := uy.getD i
    have hlB : (D ++ List.replicate (n2 - i + 1) 0).length = n2 + 1 := by simp; omega
    have hb := eb
    have hsz := (hE1.trans hE2).size
    rcases Nat.lt_or_ge i n2 with hin | hin
    · repeat' (first | refine TL.ev (ev_simple rfl) rfl ?_ | (refine TL.cmpG rfl rfl rfl rfl (fun hc => ?_) (fun hc => ?_) <;> try (exfalso; omega)) | refine TL.ev (ev_arN rfl rfl rfl (by omega)) rfl ?_ | (refine TL.callP rfl rfl (at_ok _ _ _ _ _ _ e1 (by omega)) (fun q1 => ?_)) | (refine TL.callP rfl rfl (at_ok _ _ _ _ _ _ e2 (by omega)) (fun q2 => ?_)) | (refine TL.ev (ev_indexN rfl rfl (by omega) (Or.inr rfl)) rfl ?_) | (refine TL.storeN rfl rfl hB4 (by rw [hlB]; omega) (fun w5 hB5 hU => ?_)) | refine T.seq ?_ | refine T.region ?_ | refine TL.nil ?_ | refine T.block ?_ | refine T.cond_t rfl ?_ | refine T.skip ?_ | refine G.next ?_ | refine G.blockN ?_)
      have e3 : n2 - i + 1 = (n2 - (i + 1) + 1) + 1 := by omega
      rw [e3, ← hD, N16.set_zeros, hD] at hB5
      have hlt : (X.getD i 0 + Y.getD i 0 + cy) % 65536 < 65536 := Nat.mod_lt _ (by omega)
      refine G.again (i + 1, D ++ [(X.getD i 0 + Y.getD i 0 + cy) % 65536], (X.getD i 0 + Y.getD i 0 + cy) / 65536) (by repeat (first | exact Sub.nil _ | refine Sub.cons rfl ?_ | refine Sub.cons' rfl (int_congr (by omega)) ?_)) ⟨by dsimp only; omega, by simp [hD], hDu.append (N16.U64.one hlt), by dsimp only; omega, ((hE4.drewN _).drewN _).upd hU (by omega), ⟨hB5, trivial⟩, ?_⟩ (by dsimp only; omega)
      dsimp only
      rw [N16.val_snoc, N16.val_take_succ, N16.val_take_succ, hD, Nat.pow_succ]
      exact N16.add_step hv (by omega)
    · obtain rfl : i = n2 := by omega
      have e4 : X.take i = X := List.take_of_length_le (by omega)
      have e5 : Y.take i = Y := List.take_of_length_le (by omega)
      rw [e4, e5] at hv
      have e3 : i - i + 1 = 0 + 1 := by omega
      have e6 := N16.set_zeros D 0 cy
      have u4 : N16.U64 (D ++ [cy]) := hDu.append (N16.U64.one (by omega))
      have l4 : (D ++ [cy]).length = i + 1 := by simp [hD]
      have v4 : N16.val (D ++ [cy]) = val l + val l' := by rw [N16.val_snoc, hD, hv, vx, vy]
      repeat' (first | refine TL.ev (ev_simple rfl) rfl ?_ | (refine TL.call rfl rfl ?_; first | (refine (join_ok _ _ _ _ _ _ hS5 u4 (by omega)).mono ?_; rintro _ w6 ⟨A6, n6, c6, rfl, hO6, hE6, hK6⟩; refine Back.mk ?_; rw [v4] at hO6)) | (refine TL.cmpG rfl rfl rfl rfl (fun hc => ?_) (fun hc => ?_) <;> try (exfalso; omega)) | (refine TL.ev (ev_indexN rfl rfl (by omega) (Or.inr rfl)) rfl ?_) | (refine TL.storeN rfl rfl hB4 (by rw [hlB]; omega) (fun w5 hB5 hU => ?_); rw [e3] at hB5; rw [hD] at e6; rw [e6, List.replicate_zero, List.append_nil] at hB5; have hS5 := hB5.slN l4 (Nat.le_refl _) hB5.lt) | refine T.seq ?_ | refine T.region ?_ | refine TL.nil ?_ | refine T.cond_f rfl ?_ | refine T.exit ?_ | refine T.ret ?_ | refine G.next ?_ | refine G.blockE ?_ | refine G.thenE ?_)
      exact G.ret1 rfl rfl (RetN.mk (hO6.mono (by have := hW4.size; have := hU.size; omega)) ((hW4.upd hU (by omega)).trans hE6) (by omega))
  · generalize N16.dig (val l) = X at *
    generalize N16.dig (val l') = Y at *
    have hE13 := (hE1.trans hE2).trans hE3
    refine T.loop (α := Nat × List Nat × Nat) (fun x => [(5, .slice A1 n1 c1), (6, .slice A2 n2 c2), (7, .int .i64 (n1 : Int)), (8, .slice (some ⟨b3, 0, none⟩) (n1 + 1) (n1 + 1)), (9, .int .i64 (x.2.2 : Int)), (10, .int .i64 (x.1 : Int))])
      (fun x w' => x.1 ≤ n1 ∧ x.2.1.length = x.1 ∧ N16.U64 x.2.1 ∧ x.2.2 ≤ 1 ∧ Ext w2 w' ∧ (Bk n64v w'.heap b3 3 (x.2.1 ++ List.replicate (n1 - x.1 + 1) 0)  ∧ True) ∧ N16.val x.2.1 + 65536 ^ x.1 * x.2.2 = N16.val (X.take x.1) + N16.val (Y.take x.1))
      (fun x => n1 - x.1) (0, [], 0) (by repeat (first | exact Sub.nil _ | refine Sub.cons rfl ?_ | refine Sub.cons' rfl (int_congr (by omega)) ?_)) ⟨Nat.zero_le _, rfl, N16.U64.nil, Nat.zero_le _, hE3, ⟨by simpa using hB3, trivial⟩, by simp [N16.val]⟩ ?_
    rintro ⟨i, D, cy⟩ w4 ⟨hi, hD, hDu, hcy, hE4, ⟨hB4, _⟩, hv⟩
    dsimp only at hi hD hDu hcy hB4 hv ⊢
    have e1 := g1.ext hE4
    have e2 := g2.ext hE4
    have hW4 := (hE1.trans hE2).trans hE4
    have x1 := ux.getD i
    have x2 := uy.getD i
    have hlB : (D ++ List.replicate (n1 - i + 1) 0).length = n1 + 1 := by simp; omega
    have hb := eb
    have hsz := (hE1.trans hE2).size
    rcases Nat.lt_or_ge i n1 with hin | hin
    · repeat' (first | refine TL.ev (ev_simple rfl) rfl ?_ | (refine TL.cmpG rfl rfl rfl rfl (fun hc => ?_) (fun hc => ?_) <;> try (exfalso; omega)) | refine TL.ev (ev_arN rfl rfl rfl (by omega)) rfl ?_ | (refine TL.callP rfl rfl (at_ok _ _ _ _ _ _ e1 (by omega)) (fun q1 => ?_)) | (refine TL.callP rfl rfl (at_ok _ _ _ _ _ _ e2 (by omega)) (fun q2 => ?_)) | (refine TL.ev (ev_indexN rfl rfl (by omega) (Or.inr rfl)) rfl ?_) | (refine TL.storeN rfl rfl hB4 (by rw [hlB]; omega) (fun w5 hB5 hU => ?_)) | refine T.seq ?_ | refine T.region ?_ | refine TL.nil ?_ | refine T.block ?_ | refine T.cond_t rfl ?_ | refine T.skip ?_ | refine G.next ?_ | refine G.blockN ?_)
      have e3 : n1 - i + 1 = (n1 - (i + 1) + 1) + 1 := by omega
      rw [e3, ← hD, N16.set_zeros, hD] at hB5
      have hlt : (X.getD i 0 + Y.getD i 0 + cy) % 65536 < 65536 := Nat.mod_lt _ (by omega)
      refine G.again (i + 1, D ++ [(X.getD i 0 + Y.getD i 0 + cy) % 65536], (X.getD i 0 + Y.getD i 0 + cy) / 65536) (by repeat (first | exact Sub.nil _ | refine Sub.cons rfl ?_ | refine Sub.cons' rfl (int_congr (by omega)) ?_)) ⟨by dsimp only; omega, by simp [hD], hDu.append (N16.U64.one hlt), by dsimp only; omega, ((hE4.drewN _).drewN _).upd hU (by omega), ⟨hB5, trivial⟩, ?_⟩ (by dsimp only; omega)
      dsimp only
      rw [N16.val_snoc, N16.val_take_succ, N16.val_take_succ, hD, Nat.pow_succ]
      exact N16.add_step hv (by omega)
    · obtain rfl : i = n1 := by omega
      have e4 : X.take i = X := List.take_of_length_le (by omega)
      have e5 : Y.take i = Y := List.take_of_length_le (by omega)
      rw [e4, e5] at hv
      have e3 : i - i + 1 = 0 + 1 := by omega
      have e6 := N16.set_zeros D 0 cy
      have u4 : N16.U64 (D ++ [cy]) := hDu.append (N16.U64.one (by omega))
      have l4 : (D ++ [cy]).length = i + 1 := by simp [hD]
      have v4 : N16.val (D ++ [cy]) = val l + val l' := by rw [N16.val_snoc, hD, hv, vx, vy]
      repeat' (first | refine TL.ev (ev_simple rfl) rfl ?_ | (refine TL.call rfl rfl ?_; first | (refine (join_ok _ _ _ _ _ _ hS5 u4 (by omega)).mono ?_; rintro _ w6 ⟨A6, n6, c6, rfl, hO6, hE6, hK6⟩; refine Back.mk ?_; rw [v4] at hO6)) | (refine TL.cmpG rfl rfl rfl rfl (fun hc => ?_) (fun hc => ?_) <;> try (exfalso; omega)) | (refine TL.ev (ev_indexN rfl rfl (by omega) (Or.inr rfl)) rfl ?_) | (refine TL.storeN rfl rfl hB4 (by rw [hlB]; omega) (fun w5 hB5 hU => ?_); rw [e3] at hB5; rw [hD] at e6; rw [e6, List.replicate_zero, List.append_nil] at hB5; have hS5 := hB5.slN l4 (Nat.le_refl _) hB5.lt) | refine T.seq ?_ | refine T.region ?_ | refine TL.nil ?_ | refine T.cond_f rfl ?_ | refine T.exit ?_ | refine T.ret ?_ | refine G.next ?_ | refine G.blockE ?_ | refine G.thenE ?_)
      exact G.ret1 rfl rfl (RetN.mk (hO6.mono (by have := hW4.size; have := hU.size; omega)) ((hW4.upd hU (by omega)).trans hE6) (by omega))
end Go.Proofs.YtlhmehikajidhaaGreat
namespace Go.Proofs.YtlhmehikajidhaaGreat
open Go Go.Eng Go.Proofs Go.NatM Go.RowKit
theorem cmp3_nneg {x y : Nat} (h : y ≤ x) : 0 ≤ cmp3 x y := by unfold cmp3; rw [if_neg (by omega)]; split <;> omega
theorem rorder_eq (H : Array Obj) (B B' : Nat) (A A' : Option Addr) (n c n' c' m m' : Nat) (hs : Sl n64v H B A n c (N16.dig m)) (hs' : Sl n64v H B' A' n' c' (N16.dig m')) (hn : n ≤ 35184372088832) (hn' : n' ≤ 35184372088832) {q : Int} (hq : cmp3 m m' = q) :
    Pure Tryz.prog 124 #[.slice A n c, .slice A' n' c'] H (.int .i64 q) := by rw [← hq]; exact rorder_ok H B B' A A' n c n' c' m m' hs hs' hn hn'
theorem rsub_ok (w : World) (B B' : Nat) (A A' : Option Addr) (n c n' c' : Nat) (l l' : List Nat) (hs : Sl u64v w.heap B A n c l) (hs' : Sl u64v w.heap B' A' n' c' l') (hu : U64 l) (hu' : U64 l') (hn : n ≤ 1048576000) (hn' : n' ≤ 1048576000) (hge : val l' ≤ val l) :
    Cl Tryz.prog 106 #[.slice A n c, .slice A' n' c'] w (RetNE w (dig (val l - val l')) (n + 1) 0) := by
  obtain ⟨q, hq, hq0⟩ : ∃ q, cmp3 (val l) (val l') = q ∧ 0 ≤ q := ⟨_, rfl, cmp3_nneg hge⟩
  refine enter Tryz.func106 rfl rfl rfl ?_
  repeat' (first | refine TL.ev (ev_simple rfl) rfl ?_ | (refine TL.call rfl rfl ?_; first | (refine (split_ok _ _ _ _ _ _ hs hu (by omega)).mono ?_; rintro _ w1 ⟨A1, n1, c1, rfl, hO1, hE1, hK1⟩; refine Back.mk ?_; have hs2' := hs'.ext hE1) | (refine (split_ok _ _ _ _ _ _ hs2' hu' (by omega)).mono ?_; rintro _ w2 ⟨A2, n2, c2, rfl, hO2, hE2, hK2⟩; refine Back.mk ?_; have g1 := (hO1.ext hE2).sl (Nat.le_refl _); have g2 := hO2.sl (Nat.le_refl _); have hl1 := g1.len; have hl2 := g2.len; have ux := N16.U64_dig (val l); have uy := N16.U64_dig (val l'); have vx := N16.val_dig (val l); have vy := N16.val_dig (val l')) | (refine (rorder_eq _ _ _ _ _ _ _ _ _ _ _ g1 g2 (by omega) (by omega) hq).cl.mono ?_; rintro _ _ ⟨rfl, q1, rfl⟩; refine Back.mk ?_)) | refine TL.ev (ev_len rfl) rfl ?_ | (refine TL.cmpG rfl rfl rfl rfl (fun hc => ?_) (fun hc => ?_) <;> try (exfalso; omega)) | (refine TL.makeN rfl rfl rfl (by omega) (by omega) (fun w3 b3 eb hB3 hE3 hz => ?_)) | refine T.seq ?_ | refine T.region ?_ | refine TL.nil ?_ | refine T.block ?_ | refine T.cond_f rfl ?_ | refine T.skip ?_ | refine G.next ?_)
  have hlen2 : n2 ≤ n1 := by
    rcases Nat.lt_or_ge n1 n2 with h | h
    · have h1 := N16.lt_of_sz_lt (l := N16.dig (val l)) (r := N16.dig (val l')) ux (by rw [N16.sz_dig, N16.sz_dig]; omega)
      rw [vx, vy] at h1; omega
    · exact h
  generalize N16.dig (val l) = X at *
  generalize N16.dig (val l') = Y at *
  simp only [World.heap_drewN] at eb hz
  have hE23 : Ext w2 w3 := (ext_drewN _ _).trans hE3
  refine T.loop (α := Nat × List Nat × Nat) (fun x => [(6, .slice A1 n1 c1), (7, .slice A2 n2 c2), (8, .slice (some ⟨b3, 0, none⟩) n1 n1), (9, .int .i64 (x.2.2 : Int)), (10, .int .i64 (x.1 : Int))])
    (fun x w' => x.1 ≤ n1 ∧ x.2.1.length = x.1 ∧ N16.U64 x.2.1 ∧ x.2.2 ≤ 1 ∧ Ext w2 w' ∧ Bk n64v w'.heap b3 3 (x.2.1 ++ List.replicate (n1 - x.1) 0) ∧ N16.val x.2.1 + N16.val (Y.take x.1) = N16.val (X.take x.1) + 65536 ^ x.1 * x.2.2)
    (fun x => n1 - x.1) (0, [], 0) (by repeat (first | exact Sub.nil _ | refine Sub.cons rfl ?_ | refine Sub.cons' rfl (int_congr (by omega)) ?_)) ⟨Nat.zero_le _, rfl, N16.U64.nil, Nat.zero_le _, hE23, by simpa using hB3, by simp [N16.val]⟩ ?_
  rintro ⟨i, D, cy⟩ w4 ⟨hi, hD, hDu, hcy, hE4, hB4, hv⟩
  dsimp only at hi hD hDu hcy hE4 hB4 hv ⊢
  have e1 := g1.ext hE4
  have e2 := g2.ext hE4
  have hW4 := (hE1.trans hE2).trans hE4
  have x1 := ux.getD i
  have x2 := uy.getD i
  have hlB : (D ++ List.replicate (n1 - i) 0).length = n1 := by simp; omega
  rcases Nat.lt_or_ge i n1 with hin | hin
  · have e3 : n1 - i = (n1 - (i + 1)) + 1 := by omega
    rcases Nat.lt_or_ge (X.getD i 0) (Y.getD i 0 + cy) with hb | hb
    · repeat' (first | refine TL.ev (ev_simple rfl) rfl ?_ | refine TL.ev (ev_len rfl) rfl ?_ | (refine TL.cmpG rfl rfl rfl rfl (fun hc => ?_) (fun hc => ?_) <;> try (exfalso; omega)) | refine TL.ev (ev_arN rfl rfl rfl (by omega)) rfl ?_ | refine TL.ev (ev_arI rfl rfl rfl (by omega)) rfl ?_ | refine TL.ev (ev_indexN rfl rfl (by omega) (by first | exact Or.inr rfl | exact Sl.some (by assumption))) rfl ?_ | refine TL.ev (ev_loadN rfl (by assumption) (by omega)) rfl ?_ | (refine TL.callPQ rfl rfl (at_ok _ _ _ _ _ _ (by exact e2) (by omega)) ?_) | (refine TL.storeN (u := X.getD i 0 + 65536 - Y.getD i 0 - cy) (eu := ⟨by omega⟩) rfl rfl hB4 (by rw [hlB]; omega) (fun w5 hB5 hU => ?_)) | refine T.seq ?_ | refine T.region ?_ | refine TL.nil ?_ | refine T.block ?_ | refine T.cond_t rfl ?_ | refine T.skip ?_ | refine G.next ?_ | refine G.blockN ?_ | refine T.regionQ mixed (by kernel_rfl) ?_ | refine TL.nilQ (fun _ => ?_))
      rw [e3, ← hD, N16.set_zeros, hD] at hB5
      refine G.again (i + 1, D ++ [X.getD i 0 + 65536 - Y.getD i 0 - cy], 1) (by repeat (first | exact Sub.nil _ | refine Sub.cons rfl ?_ | refine Sub.cons' rfl (int_congr (by omega)) ?_)) ⟨by dsimp only; omega, by simp [hD], hDu.append (N16.U64.one (by omega)), by dsimp only; omega, (hE4.drewN _).upd hU (by omega), hB5, ?_⟩ (by dsimp only; omega)
      dsimp only
      rw [N16.val_snoc, N16.val_take_succ, N16.val_take_succ, hD, Nat.pow_succ]
      exact N16.sub_step hv (by omega)
    · repeat' (first | refine TL.ev (ev_simple rfl) rfl ?_ | refine TL.ev (ev_len rfl) rfl ?_ | (refine TL.cmpG rfl rfl rfl rfl (fun hc => ?_) (fun hc => ?_) <;> try (exfalso; omega)) | refine TL.ev (ev_arN rfl rfl rfl (by omega)) rfl ?_ | refine TL.ev (ev_indexN rfl rfl (by omega) (by first | exact Or.inr rfl | exact Sl.some (by assumption))) rfl ?_ | refine TL.ev (ev_loadN rfl (by assumption) (by omega)) rfl ?_ | (refine TL.callPQ rfl rfl (at_ok _ _ _ _ _ _ (by exact e2) (by omega)) ?_) | (refine TL.storeN rfl rfl hB4 (by rw [hlB]; omega) (fun w5 hB5 hU => ?_)) | refine T.seq ?_ | refine T.region ?_ | refine TL.nil ?_ | refine T.block ?_ | refine T.cond_t rfl ?_ | refine T.cond_f rfl ?_ | refine T.skip ?_ | refine G.next ?_ | refine G.blockN ?_ | refine T.regionQ mixed (by kernel_rfl) ?_ | refine TL.nilQ (fun _ => ?_))
      rw [e3, ← hD, N16.set_zeros, hD] at hB5
      refine G.again (i + 1, D ++ [X.getD i 0 - Y.getD i 0 - cy], 0) (by repeat (first | exact Sub.nil _ | refine Sub.cons rfl ?_ | refine Sub.cons' rfl (int_congr (by omega)) ?_)) ⟨by dsimp only; omega, by simp [hD], hDu.append (N16.U64.one (by omega)), by dsimp only; omega, (hE4.drewN _).upd hU (by omega), hB5, ?_⟩ (by dsimp only; omega)
      dsimp only
      rw [N16.val_snoc, N16.val_take_succ, N16.val_take_succ, hD, Nat.pow_succ]
      exact N16.sub_step hv (by omega)
  · obtain rfl : i = n1 := by omega
    have e4 : X.take i = X := List.take_of_length_le (by omega)
    have e5 : Y.take i = Y := List.take_of_length_le (by omega)
    rw [e4, e5] at hv
    rw [Nat.sub_self, List.replicate_zero, List.append_nil] at hB4
    have hlt := N16.val_lt hDu
    rw [hD] at hlt
    have hc0 : cy = 0 := by
      rcases Nat.eq_zero_or_pos cy with h | h
      · exact h
      · obtain rfl : cy = 1 := by omega
        omega
    subst hc0
    have hS5 := hB4.slN hD (Nat.le_refl _) hB4.lt
    have hval : N16.val D = val l - val l' := by omega
    repeat' (first | refine TL.ev (ev_simple rfl) rfl ?_ | (refine TL.call rfl rfl ?_; first | (refine (join_ok _ _ _ _ _ _ hS5 hDu (by omega)).mono ?_; rintro _ w6 ⟨A6, n6, c6, rfl, hO6, hE6, hK6⟩; refine Back.mk ?_; rw [hval] at hO6)) | refine TL.ev (ev_len rfl) rfl ?_ | (refine TL.cmpG rfl rfl rfl rfl (fun hc => ?_) (fun hc => ?_) <;> try (exfalso; omega)) | refine T.seq ?_ | refine T.region ?_ | refine TL.nil ?_ | refine T.cond_f rfl ?_ | refine T.exit ?_ | refine T.ret ?_ | refine G.next ?_ | refine G.blockE ?_ | refine G.thenE ?_)
    exact G.ret2 rfl rfl rfl (RetNE.mk (hO6.mono hW4.size) (hW4.trans hE6) (by omega))
end Go.Proofs.YtlhmehikajidhaaGreat
namespace Go.Proofs.YtlhmehikajidhaaGreat
open Go Go.Eng Go.Proofs Go.NatM Go.RowKit
end Go.Proofs.YtlhmehikajidhaaGreat
namespace Go.Proofs.YtlhmehikajidhaaGreat
open Go Go.Eng Go.Proofs Go.NatM
def Yes (w : World) (e : Ending) (w' : World) : Prop := e = .returned (.bool true) ∧ Ext w w'
theorem Yes.mk {w w' : World} (h : Ext w w') : Yes w (.returned (.bool true)) w' := ⟨rfl, h⟩
end Go.Proofs.YtlhmehikajidhaaGreat
namespace Go.Proofs.YtlhmehikajidhaaGreat
open Go Go.Eng Go.Proofs Go.NatM
end Go.Proofs.YtlhmehikajidhaaGreat
namespace Go.Proofs.YtlhmehikajidhaaGreat
open Go Go.Eng Go.Proofs Go.NatM
end Go.Proofs.YtlhmehikajidhaaGreat
namespace Go.Proofs.YtlhmehikajidhaaGreat
open Go Go.Eng Go.Proofs Go.NatM
end Go.Proofs.YtlhmehikajidhaaGreat
namespace Go.Proofs.YtlhmehikajidhaaGreat
open Go Go.Eng Go.Proofs Go.NatM Go.RowKit
theorem ow_grown {α β : Type} {f : α → Value} {g : β → Value} {w w' : World} {lo lo' n c n' c' : Nat} {t t' : TypeId} {A A' : Option Addr} {l : List α} {l' : List β}
    (h : Ow f w.heap lo t A n c l) (h' : Ow g w.heap lo' t' A' n' c' l') (hne : t ≠ t') (hg : w.grownBy w' (Value.slice A' n' c').ownBlock) : Ow f w'.heap lo t A n c l := by
  unfold Ow at h h' ⊢
  refine ⟨h.1, ?_⟩
  rcases h.2 with ⟨e, r⟩ | ⟨b, cur, e, hlo, hb, r⟩
  · exact .inl ⟨e, r⟩
  · refine .inr ⟨b, cur, e, hlo, ?_, r⟩
    have hlt := (Array.getElem?_eq_some_iff.1 hb).1
    rw [hg.block b hlt ?_, hb]
    rcases h'.2 with ⟨e', _⟩ | ⟨b', cur', e', _, hb', _⟩
    · subst e'; simp [Value.ownBlock]
    · subst e'
      intro e2
      simp [Value.ownBlock] at e2
      subst e2
      rw [hb] at hb'
      injection hb' with hb'
      injection hb' with _ ht
      exact hne ht
def LO (H : Array Obj) (lo : Nat) (L : List (SA Nat)) : Prop := ∀ x ∈ L, Ow u64v H lo 42 x.A x.n x.c x.l ∧ U64 x.l
theorem LO.ext {w w' : World} {lo : Nat} {L : List (SA Nat)} (hb : Ext w w') (h : LO w.heap lo L) : LO w'.heap lo L := fun x hx => ⟨(h x hx).1.ext hb, (h x hx).2⟩
theorem LO.grown {β : Type} {g : β → Value} {w w' : World} {lo lo' n' c' : Nat} {t' : TypeId} {A' : Option Addr} {l' : List β} {L : List (SA Nat)} (h : LO w.heap lo L) (h' : Ow g w.heap lo' t' A' n' c' l') (hne : 42 ≠ t') (hg : w.grownBy w' (Value.slice A' n' c').ownBlock) : LO w'.heap lo L :=
  fun x hx => ⟨ow_grown (h x hx).1 h' hne hg, (h x hx).2⟩
end Go.Proofs.YtlhmehikajidhaaGreat
namespace Go.Proofs.YtlhmehikajidhaaGreat
open Go Go.Eng Go.Proofs Go.NatM Go.RowKit
theorem xmul_ok (w : World) (B B' : Nat) (A A' : Option Addr) (n c n' c' : Nat) (l l' : List Nat) (hs : Sl u64v w.heap B A n c l) (hs' : Sl u64v w.heap B' A' n' c' l') (hu : U64 l) (hu' : U64 l') (hn : n ≤ 536870912) (hn' : n' ≤ 536870912) :
    Cl Tryz.prog 107 #[.slice A n c, .slice A' n' c'] w (RetN w (dig (val l * val l')) (n + n')) := by
  refine enter Tryz.func107 rfl rfl rfl ?_
  repeat' (first | refine TL.ev (ev_simple rfl) rfl ?_ | (refine TL.call rfl rfl ?_; first | (refine (rdig_ok _ _ _ _ _ _ hs hu (by omega)).mono ?_; rintro _ w1 ⟨A1, n1, c1, rfl, hO1, hE1, hK1⟩; refine Back.mk ?_; have hs2' := hs'.ext hE1) | (refine (rdig_ok _ _ _ _ _ _ hs2' hu' (by omega)).mono ?_; rintro _ w2 ⟨A2, n2, c2, rfl, hO2, hE2, hK2⟩; refine Back.mk ?_; have g1 := (hO1.ext hE2).sl (Nat.le_refl _); have g2 := hO2.sl (Nat.le_refl _); have hl1 := g1.len; have hl2 := g2.len; have ux := N16.U64_dig (val l); have uy := N16.U64_dig (val l'); have vx := N16.val_dig (val l); have vy := N16.val_dig (val l'))) | refine TL.ev (ev_len rfl) rfl ?_ | refine TL.ev (ev_arN rfl rfl rfl (by omega)) rfl ?_ | (refine TL.makeN rfl rfl rfl (by omega) (by omega) (fun w3 b3 eb hB3 hE3 hz => ?_)) | refine T.seq ?_ | refine T.region ?_ | refine TL.nil ?_ | refine T.block ?_ | refine G.next ?_)
  rw [← vx, ← vy]
  generalize N16.dig (val l) = X at *
  generalize N16.dig (val l') = Y at *
  have hW := (hE1.trans hE2).trans hE3
  refine T.loop (α := Nat × List Nat) (fun x => [(5, .slice A1 n1 c1), (6, .slice A2 n2 c2), (7, .slice (some ⟨b3, 0, none⟩) (n1 + n2) (n1 + n2)), (8, .int .i64 (x.1 : Int))])
    (fun x w' => x.1 ≤ n1 ∧ x.2.length = n1 + n2 ∧ N16.U64 x.2 ∧ Ext w2 w' ∧ Bk n64v w'.heap b3 3 x.2 ∧ (∀ j, x.1 + n2 ≤ j → x.2.getD j 0 = 0) ∧ N16.val x.2 = N16.val (X.take x.1) * N16.val Y)
    (fun x => n1 - x.1) (0, List.replicate (n1 + n2) 0) (by repeat (first | exact Sub.nil _ | refine Sub.cons rfl ?_ | refine Sub.cons' rfl (int_congr (by omega)) ?_)) ⟨Nat.zero_le _, by simp, N16.U64.replicate _, hE3, hB3, fun j _ => by simp [List.getD, List.getElem?_replicate]; split <;> rfl, by simp [N16.val, N16.val_zeros]⟩ ?_
  rintro ⟨i, Z⟩ w4 ⟨hi, hZ, hZu, hE4, hB4, hzero, hv⟩
  dsimp only at hi hZ hZu hE4 hB4 hzero hv ⊢
  have e1 := g1.ext hE4
  have x1 := ux.getD i
  rcases Nat.lt_or_ge i n1 with hin | hin
  · repeat' (first | refine TL.ev (ev_simple rfl) rfl ?_ | refine TL.ev (ev_len rfl) rfl ?_ | (refine TL.cmpG rfl rfl rfl rfl (fun hc => ?_) (fun hc => ?_) <;> try (exfalso; omega)) | refine T.seq ?_ | refine T.region ?_ | refine TL.nil ?_ | refine T.block ?_ | refine T.cond_t rfl ?_ | refine T.skip ?_ | refine G.next ?_)
    refine T.loop (α := Nat × List Nat × Nat) (fun x => [(5, .slice A1 n1 c1), (6, .slice A2 n2 c2), (7, .slice (some ⟨b3, 0, none⟩) (n1 + n2) (n1 + n2)), (8, .int .i64 (i : Int)), (9, .int .i64 (x.2.2 : Int)), (10, .int .i64 (x.1 : Int))])
      (fun x w' => x.1 ≤ n2 ∧ x.2.1.length = n1 + n2 ∧ N16.U64 x.2.1 ∧ x.2.2 < 65536 ∧ Ext w2 w' ∧ Bk n64v w'.heap b3 3 x.2.1 ∧ (∀ j, i + n2 ≤ j → x.2.1.getD j 0 = 0) ∧ N16.val x.2.1 + 65536 ^ (i + x.1) * x.2.2 = N16.val Z + 65536 ^ i * (X.getD i 0 * N16.val (Y.take x.1)))
      (fun x => n2 - x.1) (0, Z, 0) (by repeat (first | exact Sub.nil _ | refine Sub.cons rfl ?_ | refine Sub.cons' rfl (int_congr (by omega)) ?_)) ⟨Nat.zero_le _, hZ, hZu, by dsimp only; omega, hE4, hB4, hzero, by simp [N16.val]⟩ ?_
    rintro ⟨j, V, cy⟩ w5 ⟨hj, hT, hTu, hcy, hE5, hB5, hzero5, hv5⟩
    dsimp only at hj hT hTu hcy hE5 hB5 hzero5 hv5 ⊢
    have k1 := g1.ext hE5
    have k2 := g2.ext hE5
    have x2 := uy.getD j
    have x3 := hTu.getD (i + j)
    have kT := hB5.slN (c := n1 + n2) hT (Nat.le_refl _) hB5.lt
    rcases Nat.lt_or_ge j n2 with hjn | hjn
    · have hbig : X.getD i 0 * Y.getD j 0 ≤ 65535 * 65535 := Nat.mul_le_mul (by omega) (by omega)
      repeat' (first | refine TL.ev (ev_simple rfl) rfl ?_ | refine TL.ev (ev_len rfl) rfl ?_ | (refine TL.cmpG rfl rfl rfl rfl (fun hc => ?_) (fun hc => ?_) <;> try (exfalso; omega)) | refine TL.ev (ev_arN rfl rfl rfl (by omega)) rfl ?_ | refine TL.ev (ev_indexN rfl rfl (by omega) (by first | exact Or.inr rfl | exact Sl.some (by assumption))) rfl ?_ | refine TL.ev (ev_loadN rfl (by assumption) (by omega)) rfl ?_ | (refine TL.storeN rfl rfl (by exact hB5) (by omega) (fun w6 hB6 hU => ?_)) | refine T.seq ?_ | refine T.region ?_ | refine TL.nil ?_ | refine T.block ?_ | refine T.cond_t rfl ?_ | refine T.skip ?_ | refine G.next ?_ | refine G.blockN ?_ | refine T.regionQ mixed (by kernel_rfl) ?_ | refine TL.nilQ (fun _ => ?_))
      have hset := N16.val_set V (i + j) ((V.getD (i + j) 0 + X.getD i 0 * Y.getD j 0 + cy) % 65536) (by omega)
      have e : (V.getD (i + j) 0 + X.getD i 0 * Y.getD j 0 + cy) % 65536 + 65536 * ((V.getD (i + j) 0 + X.getD i 0 * Y.getD j 0 + cy) / 65536) = X.getD i 0 * Y.getD j 0 + cy + V.getD (i + j) 0 := by
        rw [Nat.mod_add_div]; omega
      refine G.again (j + 1, _, _) (by repeat (first | exact Sub.nil _ | refine Sub.cons rfl ?_ | refine Sub.cons' rfl (int_congr (by omega)) ?_)) ⟨by dsimp only; omega, ?_, ?_, ?_, (hE5.drewN _).upd hU (by omega), hB6, ?_, ?_⟩ (by dsimp only; omega)
      · dsimp only; rw [List.length_set]; exact hT
      · exact hTu.set _ _ (Nat.mod_lt _ (by omega))
      · dsimp only; omega
      · intro q hq
        dsimp only
        rw [getD_set _ _ _ _ (by omega), if_neg (by omega)]
        exact hzero5 q hq
      · dsimp only
        rw [N16.val_take_succ, show i + (j + 1) = i + j + 1 by omega, Nat.pow_succ, Nat.pow_add, Nat.mul_assoc (65536 ^ i)]
        rw [Nat.pow_add] at hset hv5
        exact N16.rows_step hset hv5 e
    · obtain rfl : j = n2 := by omega
      repeat' (first | refine TL.ev (ev_simple rfl) rfl ?_ | refine TL.ev (ev_len rfl) rfl ?_ | (refine TL.cmpG rfl rfl rfl rfl (fun hc => ?_) (fun hc => ?_) <;> try (exfalso; omega)) | refine TL.ev (ev_arN rfl rfl rfl (by omega)) rfl ?_ | refine TL.ev (ev_indexN rfl rfl (by omega) (by first | exact Or.inr rfl | exact Sl.some (by assumption))) rfl ?_ | (refine TL.storeN rfl rfl hB5 (by omega) (fun w6 hB6 hU => ?_)) | refine T.seq ?_ | refine T.region ?_ | refine TL.nil ?_ | refine T.cond_f rfl ?_ | refine T.exit ?_ | refine G.next ?_ | refine G.blockN ?_ | refine G.blockE ?_ | refine G.thenE ?_)
      have hset := N16.val_set V (i + j) cy (by omega)
      rw [hzero5 (i + j) (by omega), Nat.mul_zero, Nat.add_zero] at hset
      have h2 : N16.val (Y.take j) = N16.val Y := by rw [List.take_of_length_le (by omega)]
      refine G.again (i + 1, _) (by repeat (first | exact Sub.nil _ | refine Sub.cons rfl ?_ | refine Sub.cons' rfl (int_congr (by omega)) ?_)) ⟨by dsimp only; omega, ?_, ?_, hE5.upd hU (by omega), hB6, ?_, ?_⟩ (by dsimp only; omega)
      · dsimp only; rw [List.length_set]; exact hT
      · exact hTu.set _ _ hcy
      · intro q hq
        dsimp only at hq ⊢
        rw [getD_set _ _ _ _ (by omega), if_neg (by omega)]
        exact hzero5 q (by omega)
      · dsimp only
        rw [hset, hv5, h2, hv, N16.val_take_succ, Nat.add_mul, Nat.mul_assoc]
  · obtain rfl : i = n1 := by omega
    have h2 : N16.val (X.take i) = N16.val X := by rw [List.take_of_length_le (by omega)]
    rw [h2] at hv
    have hS := hB4.slN (c := i + n2) hZ (Nat.le_refl _) hB4.lt
    repeat' (first | refine TL.ev (ev_simple rfl) rfl ?_ | (refine TL.call rfl rfl ?_; first | (refine (rwords_ok _ _ _ _ _ _ hS hZu (by omega)).mono ?_; rintro _ w6 ⟨A6, n6, c6, rfl, hO6, hE6, hK6⟩; refine Back.mk ?_; rw [hv] at hO6)) | refine TL.ev (ev_len rfl) rfl ?_ | (refine TL.cmpG rfl rfl rfl rfl (fun hc => ?_) (fun hc => ?_) <;> try (exfalso; omega)) | refine T.seq ?_ | refine T.region ?_ | refine TL.nil ?_ | refine T.cond_f rfl ?_ | refine T.exit ?_ | refine T.ret ?_ | refine G.next ?_ | refine G.blockE ?_ | refine G.thenE ?_)
    have hW4 := (hE1.trans hE2).trans hE4
    exact G.ret1 rfl rfl (RetN.mk (hO6.mono hW4.size) (hW4.trans hE6) (by omega))
end Go.Proofs.YtlhmehikajidhaaGreat
