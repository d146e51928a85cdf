/- Layer 9: zint's Sign, Cmp, Sub. Layer 9: Scale, VecMul, Sub, Add and Sub of shapes that do not go, Equal. Layer 9: VecMul, Equal. Layer 9: Pick. Layer 9: Pow (printed by genpow.py). Layer 9: Pow of any matrix; Make, Zero, Diag, Unit. The engine: a list of structs appended to a list of structs whose block is known whole; to nothing. -/
import Derived.Test.YtlhmehikajidhaaGreatPm6
import Derived.Test.YtlhmehikajidhaaGreatPm3
import Derived.Test.YtlhmehikajidhaaGreatPm5
set_option maxHeartbeats 16000000
set_option linter.unusedVariables false
set_option linter.unusedSimpArgs false
namespace Go.Proofs.YtlhmehikajidhaaGreat
open Go Go.Eng Go.Proofs Go.NatM Go.RowKit
theorem zsign_ok (w : World) (x : IV) (g : GI w.heap x) (hn : x.m.n ≤ 1099511627776) : Cl Tryz.prog 134 #[.agg (ivc x).toArray] w (fun e w' => e = .returned (.int .i64 (sig (ival x))) ∧ Ext w w') := by
  obtain ⟨yn, ⟨A1, n1, c1, l1⟩⟩ := x
  obtain ⟨b, hb⟩ : ∃ b, bl (val l1) = b := ⟨_, rfl⟩
  have hb0 : b = 0 ↔ val l1 = 0 := by rw [← hb]; unfold bl; constructor <;> intro h <;> (try split at h) <;> simp_all
  have hs := g.s
  have hu := g.u
  dsimp only at hs hu hn
  have hbl := fun w1 (hE : Ext w w1) => (bitlen_ok w1.heap _ A1 n1 c1 l1 (hs.ext hE) hu (by omega)).cl
  rw [hb] at hbl
  by_cases h0 : b = 0
  · have e : sig (ival ⟨yn, ⟨A1, n1, c1, l1⟩⟩) = 0 := by have := hb0.1 h0; simp [sig, ival, sgn, this]
    rw [e]
    refine enter Tryz.func134 rfl rfl rfl ?_
    have hF := Fr.refl w
    repeat' (first | (refine TL.isOp ?_; first | (refine TL.isCall ?_; refine TL.call rfl rfl ?_; first | (refine (hbl _ hF.ext).mono ?_; rintro _ w1 ⟨rfl, hE⟩; replace hF := hF.exts hE.ext; clear hE; refine Back.mk ?_)) | (refine TL.isBin ?_; refine TL.cmpG rfl rfl rfl rfl (fun hc => ?_) (fun hc => ?_) <;> (try (first | (exfalso; omega) | exact absurd rfl hc))) | (apply TL.ev; (case hd => rfl); (case h => (first | exact ev_simple rfl | (apply Ev.isLoad; first | exact ev_loadFr hF rfl (by refine ⟨?_, ?_⟩; (focus (repeat (first | exact InV.head | apply InV.tail))); rfl)) | exact ev_fieldAddr rfl))) | (refine TL.boxAFr hF (d := 1) (cs := [.bool yn, .slice A1 n1 c1]) rfl rfl ?_; clear hF; intro w1 b1 hF)) | (refine T.is ?_; first | refine T.seq ?_ | refine T.region ?_ | refine T.block ?_ | refine T.cond_t rfl ?_ | refine T.ret ?_) | (refine G.is ?_; first | refine G.next ?_ | refine G.blockR ?_ | refine G.thenR ?_) | refine TL.nil ?_)
    exact G.ret1 rfl rfl ⟨rfl, hF.ext⟩
  · have h1 : val l1 ≠ 0 := fun h => h0 (hb0.2 h)
    cases yn with
    | true =>
      have e : sig (ival ⟨true, ⟨A1, n1, c1, l1⟩⟩) = -1 := by simp only [sig, ival, sgn, if_true]; rw [if_pos (by omega)]
      rw [e]
      refine enter Tryz.func134 rfl rfl rfl ?_
      have hF := Fr.refl w
      repeat' (first | (refine TL.isOp ?_; first | (refine TL.isCall ?_; refine TL.call rfl rfl ?_; first | (refine (hbl _ hF.ext).mono ?_; rintro _ w1 ⟨rfl, hE⟩; replace hF := hF.exts hE.ext; clear hE; refine Back.mk ?_)) | (refine TL.isBin ?_; refine TL.cmpG rfl rfl rfl rfl (fun hc => ?_) (fun hc => ?_) <;> (try (first | (exfalso; omega) | exact absurd rfl hc))) | (apply TL.ev; (case hd => rfl); (case h => (first | exact ev_simple rfl | (apply Ev.isLoad; first | exact ev_loadFr hF rfl (by refine ⟨?_, ?_⟩; (focus (repeat (first | exact InV.head | apply InV.tail))); rfl)) | exact ev_fieldAddr rfl))) | (refine TL.boxAFr hF (d := 1) (cs := [.bool true, .slice A1 n1 c1]) rfl rfl ?_; clear hF; intro w1 b1 hF)) | (refine T.is ?_; first | refine T.seq ?_ | refine T.region ?_ | refine T.block ?_ | refine T.cond_t rfl ?_ | refine T.cond_f rfl ?_ | refine T.ret ?_) | (refine G.is ?_; first | refine G.next ?_ | refine G.blockR ?_ | refine G.thenR ?_) | refine TL.nil ?_)
      exact G.ret1 rfl rfl ⟨rfl, hF.ext⟩
    | false =>
      have e : sig (ival ⟨false, ⟨A1, n1, c1, l1⟩⟩) = 1 := by simp only [sig, ival, sgn, Bool.false_eq_true, if_false]; rw [if_neg (by omega), if_neg (by omega)]
      rw [e]
      refine enter Tryz.func134 rfl rfl rfl ?_
      have hF := Fr.refl w
      repeat' (first | (refine TL.isOp ?_; first | (refine TL.isCall ?_; refine TL.call rfl rfl ?_; first | (refine (hbl _ hF.ext).mono ?_; rintro _ w1 ⟨rfl, hE⟩; replace hF := hF.exts hE.ext; clear hE; refine Back.mk ?_)) | (refine TL.isBin ?_; refine TL.cmpG rfl rfl rfl rfl (fun hc => ?_) (fun hc => ?_) <;> (try (first | (exfalso; omega) | exact absurd rfl hc))) | (apply TL.ev; (case hd => rfl); (case h => (first | exact ev_simple rfl | (apply Ev.isLoad; first | exact ev_loadFr hF rfl (by refine ⟨?_, ?_⟩; (focus (repeat (first | exact InV.head | apply InV.tail))); rfl)) | exact ev_fieldAddr rfl))) | (refine TL.boxAFr hF (d := 1) (cs := [.bool false, .slice A1 n1 c1]) rfl rfl ?_; clear hF; intro w1 b1 hF)) | (refine T.is ?_; first | refine T.seq ?_ | refine T.region ?_ | refine T.block ?_ | refine T.cond_f rfl ?_ | refine T.ret ?_ | refine T.skip ?_) | (refine G.is ?_; first | refine G.next ?_ | refine G.blockN ?_) | refine TL.nil ?_)
      exact G.ret1 rfl rfl ⟨rfl, hF.ext⟩
def cmpZ (a b : Int) : Int := if a < b then -1 else if b < a then 1 else 0
theorem cmpZ_sig {x y : IV} (h : sig (ival x) = sig (ival y)) : sig (ival x) * cmp3 (val x.m.l) (val y.m.l) = cmpZ (ival x) (ival y) := by
  have e1 := ival_abs x
  have e2 := ival_abs y
  revert h e1 e2
  generalize ival x = a
  generalize ival y = b
  generalize val x.m.l = m
  generalize val y.m.l = n
  intro h e1 e2
  subst e1 e2
  unfold sig cmpZ cmp3 at *
  by_cases ha : a < 0 <;> by_cases hb : b < 0 <;> by_cases ha0 : a = 0 <;> by_cases hb0 : b = 0 <;> simp [ha, hb, ha0, hb0] at h ⊢ <;> (try omega)
  all_goals (repeat split) <;> omega
theorem cmpZ_ne {a b : Int} (h : sig a ≠ sig b) : (if sig a < sig b then -1 else 1) = cmpZ a b := by
  unfold sig cmpZ at *
  by_cases ha : a < 0 <;> by_cases hb : b < 0 <;> by_cases ha0 : a = 0 <;> by_cases hb0 : b = 0 <;> simp [ha, hb, ha0, hb0] at h ⊢ <;> (try omega)
  all_goals (repeat split) <;> omega
theorem zcmp_ok (w : World) (x y : IV) (g : GI w.heap x) (g' : GI w.heap y) (hn : x.m.n ≤ 1099511627776) (hn' : y.m.n ≤ 1099511627776) : Cl Tryz.prog 120 #[.agg (ivc x).toArray, .agg (ivc y).toArray] w (fun e w' => e = .returned (.int .i64 (cmpZ (ival x) (ival y))) ∧ Ext w w') := by
  have hsx := fun w1 (hE : Ext w w1) => zsign_ok w1 x (g.ext hE) hn
  have hsy := fun w1 (hE : Ext w w1) => zsign_ok w1 y (g'.ext hE) hn'
  have hcm := fun w1 (hE : Ext w w1) => (cmp_eqX w1.heap _ _ _ _ _ _ _ _ _ _ (g.s.ext hE) (g'.s.ext hE) g.u g'.u (by omega) (by omega) rfl).cl
  have hc1 := cmpZ_sig (x := x) (y := y)
  have hc2 := cmpZ_ne (a := ival x) (b := ival y)
  obtain ⟨sx, hsx'⟩ : ∃ s, sig (ival x) = s := ⟨_, rfl⟩
  obtain ⟨sy, hsy'⟩ : ∃ s, sig (ival y) = s := ⟨_, rfl⟩
  obtain ⟨q, hq'⟩ : ∃ s, cmp3 (val x.m.l) (val y.m.l) = s := ⟨_, rfl⟩
  have hqb : -1 ≤ q ∧ q ≤ 1 := by rw [← hq']; unfold cmp3; split <;> (try split) <;> omega
  have hb : -1 ≤ sx ∧ sx ≤ 1 := by rw [← hsx']; unfold sig; split <;> (try split) <;> omega
  rw [hsx'] at hsx hc1 hc2
  rw [hsy'] at hsy hc1 hc2
  rw [hq'] at hcm hc1
  generalize cmpZ (ival x) (ival y) = cz at *
  obtain ⟨xn, ⟨A1, n1, c1, l1⟩⟩ := x
  obtain ⟨yn, ⟨A2, n2, c2, l2⟩⟩ := y
  by_cases h : sx = sy
  · have hm : -1 ≤ sx * q ∧ sx * q ≤ 1 := by
      have h3 : sx = -1 ∨ sx = 0 ∨ sx = 1 := by omega
      rcases h3 with rfl | rfl | rfl <;> omega
    subst h
    refine enter Tryz.func120 rfl rfl rfl ?_
    have hF := Fr.refl w
    repeat' (first | (refine TL.isOp ?_; first | (refine TL.isCall ?_; refine TL.call rfl rfl ?_; first | (refine (hsx _ hF.ext).mono ?_; rintro _ w1 ⟨rfl, hE⟩; replace hF := hF.exts hE; clear hE; refine Back.mk ?_) | (refine (hsy _ hF.ext).mono ?_; rintro _ w1 ⟨rfl, hE⟩; replace hF := hF.exts hE; clear hE; refine Back.mk ?_) | (refine (hcm _ hF.ext).mono ?_; rintro _ w1 ⟨rfl, hE⟩; replace hF := hF.exts hE.ext; clear hE; refine Back.mk ?_)) | (refine TL.isBin ?_; refine TL.cmpG rfl rfl rfl rfl (fun hc => ?_) (fun hc => ?_) <;> (try (first | (exfalso; omega) | exact absurd rfl hc))) | (apply TL.ev; (case hd => rfl); (case h => (first | exact ev_simple rfl | (apply Ev.isBin; first | exact ev_arI rfl rfl rfl (by omega)) | (apply Ev.isLoad; first | exact ev_loadFr hF rfl (by refine ⟨?_, ?_⟩; (focus (repeat (first | exact InV.head | apply InV.tail))); rfl)) | exact ev_fieldAddr rfl))) | (refine TL.boxAFr hF (d := 2) (cs := [.bool xn, .slice A1 n1 c1]) rfl rfl ?_; clear hF; intro w2 b2 hF) | (refine TL.boxAFr hF (d := 3) (cs := [.bool yn, .slice A2 n2 c2]) rfl rfl ?_; clear hF; intro w3 b3 hF)) | (refine TF.is ?_; first | refine TF.nil ?_ | refine TF.e rfl ?_ | (refine TF.pick rfl ?_; first | (apply TFo.ev; (case hd => rfl); (case h => (intro wh hF; first | exact ev_simple rfl | (apply Ev.isLoad; first | exact ev_loadAFr hF rfl (by refine ⟨?_, ?_⟩; (focus (repeat (first | exact InV.head | apply InV.tail))); rfl))))))) | (refine T.is ?_; first | refine T.seq ?_ | refine T.region ?_ | refine T.cond_f rfl ?_ | refine T.ret ?_ | refine T.skip ?_ | (refine T.regionFr hF 1 6 (.s 0 (.s 2 (.e 1 (.e 3 (.s 4 (.s 5 .nil)))))) mixed (by kernel_rfl) ?_; clear hF; intro wr hF)) | (refine G.is ?_; first | refine G.next ?_ | refine G.only ?_ | refine G.tree rfl (by first | exact hF | exact hF.weak (by repeat (first | exact List.Sublist.refl _ | apply List.Sublist.cons)) (by repeat (first | exact allR | apply allT)) | exact hF.weak (by repeat (first | exact List.Sublist.refl _ | apply List.Sublist.cons)) (by repeat (first | exact allN | refine allH (by repeat (first | exact memH | apply memT)) ?_))) ?_) | refine TL.nil ?_)
    exact G.ret1 rfl rfl ⟨by rw [hc1 rfl], hF.ext⟩
  · have hz := hc2 h
    refine enter Tryz.func120 rfl rfl rfl ?_
    have hF := Fr.refl w
    repeat' (first | (refine TL.isOp ?_; first | (refine TL.isCall ?_; refine TL.call rfl rfl ?_; first | (refine (hsx _ hF.ext).mono ?_; rintro _ w1 ⟨rfl, hE⟩; replace hF := hF.exts hE; clear hE; refine Back.mk ?_) | (refine (hsy _ hF.ext).mono ?_; rintro _ w1 ⟨rfl, hE⟩; replace hF := hF.exts hE; clear hE; refine Back.mk ?_)) | (refine TL.isBin ?_; refine TL.cmpG rfl rfl rfl rfl (fun hc => ?_) (fun hc => ?_) <;> (try (first | (exfalso; omega) | exact absurd rfl hc))) | (apply TL.ev; (case hd => rfl); (case h => (first | exact ev_simple rfl))) | (refine TL.boxAFr hF (d := 2) (cs := [.bool xn, .slice A1 n1 c1]) rfl rfl ?_; clear hF; intro w2 b2 hF) | (refine TL.boxAFr hF (d := 3) (cs := [.bool yn, .slice A2 n2 c2]) rfl rfl ?_; clear hF; intro w3 b3 hF)) | (refine TF.is ?_; first | refine TF.nil ?_ | refine TF.e rfl ?_ | (refine TF.pick rfl ?_; first | (apply TFo.ev; (case hd => rfl); (case h => (intro wh hF; first | exact ev_simple rfl | (apply Ev.isLoad; first | exact ev_loadAFr hF rfl (by refine ⟨?_, ?_⟩; (focus (repeat (first | exact InV.head | apply InV.tail))); rfl))))))) | (refine T.is ?_; first | refine T.seq ?_ | refine T.region ?_ | refine T.cond_t rfl ?_ | refine T.cond_f rfl ?_ | refine T.ret ?_ | refine T.skip ?_ | (refine T.regionFr hF 1 6 (.s 0 (.s 2 (.e 1 (.e 3 (.s 4 (.s 5 .nil)))))) mixed (by kernel_rfl) ?_; clear hF; intro wr hF)) | (refine G.is ?_; first | refine G.next ?_ | refine G.thenR ?_ | refine G.only ?_ | refine G.tree rfl (by first | exact hF | exact hF.weak (by repeat (first | exact List.Sublist.refl _ | apply List.Sublist.cons)) (by repeat (first | exact allR | apply allT)) | exact hF.weak (by repeat (first | exact List.Sublist.refl _ | apply List.Sublist.cons)) (by repeat (first | exact allN | refine allH (by repeat (first | exact memH | apply memT)) ?_))) ?_) | refine TL.nil ?_)
    · exact G.ret1 rfl rfl ⟨by rw [← hz, if_pos (by assumption)], hF.ext⟩
    · exact G.ret1 rfl rfl ⟨by rw [← hz, if_neg (by assumption)], hF.ext⟩
theorem ev_notB {P : Program} {σ : Store} {H : Array Obj} {d : Option Tmp} {t : TypeId} {pos : String} {af : Array Edge} {gd : Option (Nat × Bool)} {x : Operand} {ty : TypeId} {b : Bool} (h : Eng.look σ x = some (.bool b)) : Ev P σ H ⟨d, .unOp .not ty x, t, pos, af, gd⟩ (.bool !b) := by
  cases b with
  | true => exact ev_not_t h
  | false => exact ev_not_f h
theorem ival_neg (n : Bool) (m : SA Nat) : ival ⟨!n, m⟩ = - ival ⟨n, m⟩ := by unfold ival sgn; cases n <;> simp
theorem zsub_ok (w : World) (x y : IV) (gx : GI w.heap x) (gy : GI w.heap y) (hx : x.m.n ≤ 17592186044416) (hy : y.m.n ≤ 17592186044416) : Cl Tryz.prog 85 #[.agg (ivc x).toArray, .agg (ivc y).toArray] w (RetZ w (ival x - ival y) (max x.m.n y.m.n + 1)) := by
  obtain ⟨xn, ⟨A1, n1, c1, l1⟩⟩ := x
  obtain ⟨yn, ⟨A2, n2, c2, l2⟩⟩ := y
  have ha := fun w1 (hE : Ext w w1) => zadd_ok w1 ⟨xn, ⟨A1, n1, c1, l1⟩⟩ ⟨!yn, ⟨A2, n2, c2, l2⟩⟩ (gx.ext hE) ⟨(gy.ext hE).s, gy.u⟩ hx hy
  rw [ival_neg, ← Int.sub_eq_add_neg] at ha
  dsimp only at ha ⊢
  refine enter Tryz.func85 rfl rfl rfl ?_
  have hF := Fr.refl w
  repeat' (first | (refine TL.isOp ?_; first | (refine TL.isCall ?_; refine TL.call rfl rfl ?_; first | (refine (ha _ hF.ext).mono ?_; rintro _ w1 ⟨z, rfl, hL, hE, hK⟩; replace hF := Fr.addLI (hF.exts hE) hL; clear hE hL; refine Back.mk ?_)) | (apply TL.ev; (case hd => rfl); (case h => (first | (apply Ev.isLoad; first | exact ev_loadFr hF rfl (by refine ⟨?_, ?_⟩; (focus (repeat (first | exact InV.head | apply InV.tail))); rfl) | exact ev_loadAFr hF rfl (by refine ⟨?_, ?_⟩; (focus (repeat (first | exact InV.head | apply InV.tail))); rfl)) | exact ev_fieldAddr rfl | exact ev_buildX rfl rfl | exact ev_notB rfl))) | (refine TL.storeAFr hF rfl rfl rfl rfl (by refine ⟨?_, ?_⟩; (focus (repeat (first | apply SetV.head | apply SetV.tail))); rfl) rfl ?_; clear hF; intro ws hF) | (refine TL.boxAFr hF (d := 2) (cs := [.bool xn, .slice A1 n1 c1]) rfl rfl ?_; clear hF; intro w2 b2 hF) | (refine TL.boxAFr hF (d := 3) (cs := [.bool yn, .slice A2 n2 c2]) rfl rfl ?_; clear hF; intro w3 b3 hF) | (refine TL.allocFr hF (d := 4) rfl rfl ?_; clear hF; intro w4 b4 hF)) | (refine T.is ?_; first | refine T.seq ?_ | refine T.region ?_ | refine T.ret ?_) | (refine G.is ?_; first | refine G.next ?_) | refine TL.nil ?_)
  exact G.retC1 rfl rfl (held_agg (hF.var (by repeat (first | exact InV.head | apply InV.tail))) rfl) ⟨z, rfl, Fr.li hF (by repeat (first | exact memH | apply memT)), hF.ext, hK⟩
end Go.Proofs.YtlhmehikajidhaaGreat
namespace Go.Proofs.YtlhmehikajidhaaGreat
open Go Go.Eng Go.Proofs Go.NatM Go.RowKit
theorem LL.lmF {H : Array Obj} {r c K k : Nat} {A : Option Addr} {l : List IV} {Z : Nat → Int} {F : Nat → Nat → Int} (hr : r ≤ 64) (hc : c ≤ 64) (h : LL H A (r * c) k l Z K) (e : ∀ i j, i < r → j < c → Z (i * c + j) = F i j) : LM H ⟨r, c, A, r * c, k, l⟩ r c F K :=
  ⟨⟨rfl, rfl, hr, hc, rfl⟩, h.s, fun i j hi hj => by have h1 := h.g (i * c + j) (place_lt hi hj); rw [e i j hi hj] at h1; exact h1⟩
theorem RetZ.more {w : World} {z : Int} {K K' : Nat} (hK : K ≤ K') {e : Ending} {w' : World} (h : RetZ w z K e w') : RetZ w z K' e w' := by
  obtain ⟨x, h1, h2, h3, h4⟩ := h
  exact ⟨x, h1, h2, h3, Nat.le_trans h4 hK⟩
set_option maxRecDepth 100000 in
theorem scale1_ok (w : World) (z y : IV) (b : Nat) (hV : Vr w.heap b 30 (ivc z)) (gz : GI w.heap z) (gy : GI w.heap y) (hz : z.m.n ≤ 8796093022208) (hy : y.m.n ≤ 8796093022208) :
    Cl Tryz.prog 87 ([Value.agg (ivc y).toArray] ++ [Value.pointer (some ⟨b, 0, none⟩)]).toArray w (RetZ w (ival z * ival y) (z.m.n + y.m.n)) := by
  have ha := fun w1 (hE : Ext w w1) => zmul_ok w1 z y (gz.ext hE) (gy.ext hE) hz hy
  obtain ⟨zn, ⟨zA, zm, zc, zl⟩⟩ := z
  obtain ⟨yn, ⟨yA, ym, yc, yl⟩⟩ := y
  refine enter Tryz.func87 rfl rfl rfl ?_
  have hF := Fr.refl w
  repeat' (first | (refine TL.isOp ?_; first | (refine TL.isCall ?_; refine TL.call rfl rfl ?_; first | (refine (ha _ hF.ext).mono ?_; rintro _ w1 ⟨z, rfl, hL, hE, hK⟩; replace hF := Fr.addLI (hF.exts hE) hL; clear hE hL; refine Back.mk ?_)) | (apply TL.ev; (case hd => rfl); (case h => (first | (apply Ev.isLoad; first | exact ev_loadAFr hF rfl (by refine ⟨?_, ?_⟩; (focus (repeat (first | exact InV.head | apply InV.tail))); rfl) | exact ev_loadVA rfl (hV.ext hF.ext) rfl)))) | (refine TL.storeAFr hF rfl rfl rfl rfl (by refine ⟨?_, ?_⟩; (focus (repeat (first | apply SetV.head | apply SetV.tail))); rfl) rfl ?_; clear hF; intro ws hF) | (refine TL.boxAFr hF (d := 2) (cs := [.bool yn, .slice yA ym yc]) rfl rfl ?_; clear hF; intro w2 b2 hF) | (refine TL.allocFr hF (d := 3) rfl rfl ?_; clear hF; intro w3 b3 hF)) | (refine T.is ?_; first | refine T.seq ?_ | refine T.region ?_ | refine T.ret ?_) | (refine G.is ?_; first | refine G.next ?_) | refine TL.nil ?_)
  exact G.retC1 rfl rfl (held_agg (hF.var (by repeat (first | exact InV.head | apply InV.tail))) rfl) ⟨z, rfl, Fr.li hF (by repeat (first | exact memH | apply memT)), hF.ext, hK⟩
theorem scale_each (w : World) (z : IV) (b : Nat) (hV : Vr w.heap b 30 (ivc z)) (gz : GI w.heap z) {Kz : Nat} (hz : z.m.n ≤ Kz) (l : List IV) (K : Nat) (hg : ∀ y ∈ l, GI w.heap y ∧ y.m.n ≤ K) (hKz : Kz ≤ 8796093022208) (hK : K ≤ 8796093022208) :
    ∀ i y (w1 : World), l[i]? = some y → Ext w w1 → Cl Tryz.prog 87 ([Value.agg (ivc y).toArray] ++ [Value.pointer (some ⟨b, 0, none⟩)]).toArray w1 (RetZ w1 ((fun q => ival z * ival (l.getD q default)) i) (Kz + K)) := by
  intro i y w1 hy hE
  obtain ⟨g1, g2⟩ := hg y (List.mem_of_getElem? hy)
  have e1 : l.getD i default = y := by simp [List.getD, hy]
  simp only [e1]
  exact (scale1_ok w1 z y b (hV.ext hE) (gz.ext hE) (g1.ext hE) (by omega) (by omega)).mono (fun e w' h => h.more (by omega))
set_option maxRecDepth 100000 in
theorem mscale_ok (w : World) (z : IV) (x : MV) (r c Kz K : Nat) (gz : GI w.heap z) (hzn : z.m.n ≤ Kz) (gx : GM w.heap x r c K) (hKz : Kz ≤ 8796093022208) (hK : K ≤ 8796093022208) :
    Cl Tryz.prog 45 #[.agg (ivc z).toArray, .agg (mvc x).toArray] w (RetME w r c (fun i j => ival z * ent x c i j) (Kz + K)) := by
  have hs0 := gx.sh
  obtain ⟨xr, xc, A1, n1, k1, l1⟩ := x
  obtain ⟨hr1, hc1, hr, hcc, hn1⟩ := hs0
  dsimp only at hr1 hc1 hn1
  subst hr1 hc1 hn1
  have hm := mul64 hr hcc
  obtain ⟨zn, ⟨zA, zm, zc, zl⟩⟩ := z
  refine enter Tryz.func45 rfl rfl rfl ?_
  have hF := Fr.refl w
  repeat' (first | (refine TL.isOp ?_; first | (refine TL.isCall ?_; refine TL.call rfl rfl ?_; first | (refine (chk_ok _ _ r c gx.sh).mono ?_; rintro _ wy ⟨rfl, hE⟩; replace hF := hF.exts hE; clear hE; refine Back.mk ?_) | (refine (each_ok _ A1 (r * c) k1 l1 (gx.s.ext hF.ext).size (by omega) 87 [.pointer (some ⟨b2, 0, none⟩)] inferInstance (fun q => ival ⟨zn, ⟨zA, zm, zc, zl⟩⟩ * ival (l1.getD q default)) (Kz + K) (scale_each _ ⟨zn, ⟨zA, zm, zc, zl⟩⟩ b2 (hF.var (by repeat (first | exact InV.head | apply InV.tail))) (gz.ext hF.ext) hzn l1 K (fun y hy => ⟨(gx.g y hy).1.ext hF.ext, (gx.g y hy).2⟩) hKz hK)).mono ?_; rintro _ wl ⟨Al, kl, ll, rfl, hL, hE, hf⟩; have hLm := LL.lmF (F := fun i j => ival ⟨zn, ⟨zA, zm, zc, zl⟩⟩ * ent ⟨r, c, A1, r * c, k1, l1⟩ c i j) hr hcc hL (fun i j _ _ => rfl); have hMf := LF.mf (r := r) (c := c) (k := kl) (l := ll) hf; replace hMf := hMf.mono hF.ext.size; replace hF := Fr.addLM hF hE hLm (LF.mf hf); clear hE hf hL hLm; refine Back.mk ?_)) | (refine TL.isBin ?_; refine TL.cmpG rfl rfl rfl rfl (fun hc => ?_) (fun hc => ?_) <;> (try (first | (exfalso; omega) | exact absurd rfl hc))) | (apply TL.ev; (case hd => rfl); (case h => (first | exact ev_simple rfl | (apply Ev.isLoad; first | exact ev_loadAFr hF rfl (by refine ⟨?_, ?_⟩; (focus (repeat (first | exact InV.head | apply InV.tail))); rfl))))) | (refine TL.storeAFr hF rfl rfl rfl rfl (by refine ⟨?_, ?_⟩; (focus (repeat (first | apply SetV.head | apply SetV.tail))); rfl) rfl ?_; clear hF; intro ws hF) | (refine TL.boxAFr hF (d := 2) (cs := [.bool zn, .slice zA zm zc]) rfl rfl ?_; clear hF; intro w2 b2 hF) | (refine TL.boxAFr hF (d := 3) (cs := [.int .i64 (r : Int), .int .i64 (c : Int), .slice A1 (r * c) k1]) rfl rfl ?_; clear hF; intro w3 b3 hF) | (refine TL.allocFr hF (d := 4) rfl rfl ?_; clear hF; intro w4 b4 hF)) | (refine TF.is ?_; first | refine TF.nil ?_ | refine TF.e rfl ?_ | (refine TF.pick rfl ?_; first | (apply TFo.ev; (case hd => rfl); (case h => (intro wh hF; first | exact ev_simple rfl | (apply Ev.isLoad; first | exact ev_loadFr hF rfl (by refine ⟨?_, ?_⟩; (focus (repeat (first | exact InV.head | apply InV.tail))); rfl)) | exact ev_fieldAddr rfl | exact ev_buildX rfl rfl | exact ev_makeFunc rfl))))) | (refine T.is ?_; first | refine T.seq ?_ | refine T.region ?_ | refine T.cond_f rfl ?_ | refine T.ret ?_ | refine T.skip ?_ | (refine T.regionFt hF 4 11 (.s 0 (.s 1 (.s 2 (.s 3 (.s 4 (.s 5 (.s 6 (.e 7 (.s 8 (.e 9 (.s 10 .nil))))))))))) mixed (by kernel_rfl) ?_; clear hF; intro wr hF)) | (refine G.is ?_; first | refine G.next ?_ | refine G.only ?_ | refine G.tree rfl (by first | exact hF | exact hF.weak (by repeat (first | exact List.Sublist.refl _ | apply List.Sublist.cons)) (by repeat (first | exact allR | apply allT)) | exact hF.weak (by repeat (first | exact List.Sublist.refl _ | apply List.Sublist.cons)) (by repeat (first | exact allN | refine allH (by repeat (first | exact memH | apply memT)) ?_))) ?_) | refine TL.nil ?_)
  exact G.retC2 rfl rfl rfl (held_agg (hF.var (by repeat (first | exact InV.head | apply InV.tail))) rfl) ⟨⟨r, c, Al, r * c, kl, ll⟩, rfl, Fr.lm hF (by repeat (first | exact memH | apply memT)), hF.ext, hMf⟩
theorem msub_ok (w : World) (x y : MV) (r c Kx Ky : Nat) (gx : GM w.heap x r c Kx) (gy : GM w.heap y r c Ky) (hx : Kx ≤ 17592186044416) (hy : Ky ≤ 17592186044416) :
    Cl Tryz.prog 44 #[.agg (mvc x).toArray, .agg (mvc y).toArray] w (RetME w r c (fun i j => ent x c i j - ent y c i j) (max Kx Ky + 1)) := by
  have hG : ∀ (w1 : World) (x y : IV), GI w1.heap x → GI w1.heap y → x.m.n ≤ Kx → y.m.n ≤ Ky → Cl Tryz.prog 85 #[.agg (ivc x).toArray, .agg (ivc y).toArray] w1 (RetZ w1 (ival x - ival y) (max Kx Ky + 1)) := by
    intro w1 x y g1 g2 n1 n2
    exact (zsub_ok w1 x y g1 g2 (by omega) (by omega)).mono (fun e w' h => h.more (by omega))
  refine enter Tryz.func44 rfl rfl rfl ?_
  repeat' (first | refine TL.ev (ev_simple rfl) rfl ?_ | (refine TL.call rfl rfl ?_; first | (refine (place_ok _ x y r c Kx Ky (max Kx Ky + 1) 85 inferInstance (fun a b => a - b) hG (by repeat (first | assumption | (apply GM.ext; assumption))) (by repeat (first | assumption | (apply GM.ext; assumption)))).mono ?_; rintro _ wp ⟨z, rfl, hLp, hEp, hfp⟩; refine Back.mk ?_; have hzp := hEp.size)) | (refine TL.boxA rfl rfl (fun wb bb ebb hVb hEb hzb => ?_); have hlb := box_lo (w0 := w) (by repeat (first | exact Ext.refl _ | (refine Ext.trans ?_ (by assumption)) | (apply ext_upd; assumption; rotate_left; omega))) ebb) | (refine TL.alloc rfl (fun wa ba eba hVa hEa hza => ?_); have hla := box_lo (w0 := w) (by repeat (first | exact Ext.refl _ | (refine Ext.trans ?_ (by assumption)) | (apply ext_upd; assumption; rotate_left; omega))) eba) | (refine TL.ev (ev_loadVAX rfl (by refine ⟨?_, ?_⟩; (focus (repeat (first | assumption | (apply Vr.ext; assumption) | (apply Vr.updX; assumption; rotate_left; omega)))); rfl)) rfl ?_) | (refine TL.storeVX rfl rfl rfl rfl (by refine ⟨?_, ?_⟩; (focus (repeat (first | assumption | (apply Vr.ext; assumption) | (apply Vr.updX; assumption; rotate_left; omega)))); rfl) (fun ws hVs hUs hzs => ?_)) | refine T.seq ?_ | refine T.region ?_ | refine TL.nil ?_ | refine T.ret ?_ | refine G.next ?_)
  exact G.retC2 rfl rfl rfl (held_agg hVs rfl) ⟨z, rfl, LM.updV hUs (by repeat (first | assumption | (apply Vr.ext; assumption) | (apply Vr.updX; assumption; rotate_left; omega))) rfl rfl hLp, (by repeat (first | exact Ext.refl _ | (refine Ext.trans ?_ (by assumption)) | (apply ext_upd; assumption; rotate_left; omega))), hfp.mono (by omega)⟩
set_option maxRecDepth 100000 in
theorem place_unfit (w : World) (x y : MV) (r c r' c' : Nat) (g : FuncId) (gx : Sound x r c) (gy : Sound y r' c') (hne : ¬ (r = r' ∧ c = c')) :
    Cl Tryz.prog 83 #[.agg (mvc x).toArray, .agg (mvc y).toArray, .func (.func g) #[] #[]] w (RetMF w 2) := by
  have h2 := sound_two gx gy
  obtain ⟨xr, xc, A, n, k, l⟩ := x
  obtain ⟨yr, yc, A2, n2, k2, l2⟩ := y
  obtain ⟨h1, h2', h3, h4, h5⟩ := gx
  obtain ⟨h1', h2'', h3', h4', h5'⟩ := gy
  dsimp only at h1 h2' h5 h1' h2'' h5'
  subst h1 h2' h5 h1' h2'' h5'
  refine enter Tryz.func83 rfl rfl rfl ?_
  have hF := Fr.refl w
  repeat' (first | (refine TL.isOp ?_; first | (refine TL.isG ?_; first | refine TL.grun rfl rfl rfl ?_ | refine TL.gskip rfl rfl rfl rfl ?_) | (refine TL.isCall ?_; refine TL.call rfl rfl ?_; first | (refine (check_ok _ _ _ _ _ hSn h2 (by omega)).mono ?_; rintro _ wc ⟨rfl, hE⟩; replace hF := hF.exts hE; clear hE hSn; refine Back.mk ?_)) | (refine TL.isBin ?_; refine TL.cmpG rfl rfl rfl rfl (fun hc => ?_) (fun hc => ?_) <;> (try (first | (exfalso; omega) | exact absurd rfl hc))) | (apply TL.ev; (case hd => rfl); (case h => (first | exact ev_simple rfl | (apply Ev.isLoad; first | exact ev_loadFr hF rfl (by refine ⟨?_, ?_⟩; (focus (repeat (first | exact InV.head | apply InV.tail))); rfl) | exact ev_loadAFr hF rfl (by refine ⟨?_, ?_⟩; (focus (repeat (first | exact InV.head | apply InV.tail))); rfl)) | exact ev_fieldAddr rfl | exact ev_buildX rfl rfl))) | (refine TL.storeAFr hF rfl rfl rfl rfl (by refine ⟨?_, ?_⟩; (focus (repeat (first | apply SetV.head | apply SetV.tail))); rfl) rfl ?_; clear hF; intro ws hF) | (refine TL.boxAFr hF (d := 3) (cs := [.int .i64 (r : Int), .int .i64 (c : Int), .slice A (r * c) k]) rfl rfl ?_; clear hF; intro w3 b3 hF) | (refine TL.boxAFr hF (d := 4) (cs := [.int .i64 (r' : Int), .int .i64 (c' : Int), .slice A2 (r' * c') k2]) rfl rfl ?_; clear hF; intro w4 b4 hF) | (refine TL.allocFr hF (d := 6) rfl rfl ?_; clear hF; intro w6 b6 hF) | (refine TL.buildX2 (f := mvc) (u := ⟨r, c, A, r * c, k, l⟩) (v := ⟨r', c', A2, r' * c', k2, l2⟩) rfl rfl rfl rfl rfl rfl rfl rfl rfl rfl (fun wn bn ebn hSn hE hzn => ?_); replace hF := hF.exts hE; clear hE hzn ebn) | (refine TL.boxFr hF rfl rfl ?_; clear hF; intro wb bb hF)) | (refine T.is ?_; first | refine T.seq ?_ | refine T.region ?_ | refine T.cond_t rfl ?_ | refine T.cond_f rfl ?_ | refine T.ret ?_ | refine T.skip ?_) | (refine G.is ?_; first | refine G.next ?_ | refine G.thenR ?_) | refine TL.nil ?_)
  all_goals first | exact G.retC2 rfl rfl rfl (held_agg (hF.var (by repeat (first | exact InV.head | apply InV.tail))) rfl) ⟨rfl, hF.ext⟩ | (exfalso; omega)
theorem madd_unfit (w : World) (x y : MV) (r c r' c' : Nat) (gx : Sound x r c) (gy : Sound y r' c') (hne : ¬ (r = r' ∧ c = c')) :
    Cl Tryz.prog 43 #[.agg (mvc x).toArray, .agg (mvc y).toArray] w (RetMF w 2) := by
  have hpl := fun w => place_unfit w x y r c r' c' 84 gx gy hne
  clear gx gy hne
  obtain ⟨xr, xc, A, n, k, l⟩ := x
  obtain ⟨yr, yc, A2, n2, k2, l2⟩ := y
  refine enter Tryz.func43 rfl rfl rfl ?_
  have hF := Fr.refl w
  repeat' (first | (refine TL.isOp ?_; first | (refine TL.isCall ?_; refine TL.call rfl rfl ?_; first | (refine (hpl _).mono ?_; rintro _ wc ⟨rfl, hE⟩; replace hF := hF.exts hE; clear hE; refine Back.mk ?_)) | (apply TL.ev; (case hd => rfl); (case h => (first | exact ev_simple rfl | (apply Ev.isLoad; first | exact ev_loadAFr hF rfl (by refine ⟨?_, ?_⟩; (focus (repeat (first | exact InV.head | apply InV.tail))); rfl))))) | (refine TL.storeAFr hF rfl rfl rfl rfl (by refine ⟨?_, ?_⟩; (focus (repeat (first | apply SetV.head | apply SetV.tail))); rfl) rfl ?_; clear hF; intro ws hF) | (refine TL.boxAFr hF (d := 2) (cs := [.int .i64 xr, .int .i64 xc, .slice A n k]) rfl rfl ?_; clear hF; intro w2 b2 hF) | (refine TL.boxAFr hF (d := 3) (cs := [.int .i64 yr, .int .i64 yc, .slice A2 n2 k2]) rfl rfl ?_; clear hF; intro w3 b3 hF) | (refine TL.allocFr hF (d := 4) rfl rfl ?_; clear hF; intro w4 b4 hF)) | (refine T.is ?_; first | refine T.seq ?_ | refine T.region ?_ | refine T.ret ?_) | (refine G.is ?_; first | refine G.next ?_) | refine TL.nil ?_)
  exact G.retC2 rfl rfl rfl (held_agg (hF.var (by repeat (first | exact InV.head | apply InV.tail))) rfl) ⟨rfl, hF.ext⟩
theorem msub_unfit (w : World) (x y : MV) (r c r' c' : Nat) (gx : Sound x r c) (gy : Sound y r' c') (hne : ¬ (r = r' ∧ c = c')) :
    Cl Tryz.prog 44 #[.agg (mvc x).toArray, .agg (mvc y).toArray] w (RetMF w 2) := by
  have hpl := fun w => place_unfit w x y r c r' c' 85 gx gy hne
  clear gx gy hne
  obtain ⟨xr, xc, A, n, k, l⟩ := x
  obtain ⟨yr, yc, A2, n2, k2, l2⟩ := y
  refine enter Tryz.func44 rfl rfl rfl ?_
  have hF := Fr.refl w
  repeat' (first | (refine TL.isOp ?_; first | (refine TL.isCall ?_; refine TL.call rfl rfl ?_; first | (refine (hpl _).mono ?_; rintro _ wc ⟨rfl, hE⟩; replace hF := hF.exts hE; clear hE; refine Back.mk ?_)) | (apply TL.ev; (case hd => rfl); (case h => (first | exact ev_simple rfl | (apply Ev.isLoad; first | exact ev_loadAFr hF rfl (by refine ⟨?_, ?_⟩; (focus (repeat (first | exact InV.head | apply InV.tail))); rfl))))) | (refine TL.storeAFr hF rfl rfl rfl rfl (by refine ⟨?_, ?_⟩; (focus (repeat (first | apply SetV.head | apply SetV.tail))); rfl) rfl ?_; clear hF; intro ws hF) | (refine TL.boxAFr hF (d := 2) (cs := [.int .i64 xr, .int .i64 xc, .slice A n k]) rfl rfl ?_; clear hF; intro w2 b2 hF) | (refine TL.boxAFr hF (d := 3) (cs := [.int .i64 yr, .int .i64 yc, .slice A2 n2 k2]) rfl rfl ?_; clear hF; intro w3 b3 hF) | (refine TL.allocFr hF (d := 4) rfl rfl ?_; clear hF; intro w4 b4 hF)) | (refine T.is ?_; first | refine T.seq ?_ | refine T.region ?_ | refine T.ret ?_) | (refine G.is ?_; first | refine G.next ?_) | refine TL.nil ?_)
  exact G.retC2 rfl rfl rfl (held_agg (hF.var (by repeat (first | exact InV.head | apply InV.tail))) rfl) ⟨rfl, hF.ext⟩
end Go.Proofs.YtlhmehikajidhaaGreat
namespace Go.Proofs.YtlhmehikajidhaaGreat
open Go Go.Eng Go.Proofs Go.NatM Go.RowKit
def RetLE (w : World) (n : Nat) (Z : Nat → Int) (K : Nat) (e : Ending) (w' : World) : Prop := ∃ A k l, e = .returned (.tuple #[.slice A n k, .int .i64 0]) ∧ LL w'.heap A n k l Z K ∧ Ext w w' ∧ LF w A n
set_option maxRecDepth 100000 in
theorem mvec_ok (w : World) (B : Option Addr) (q : Nat) (lx : List IV) (x : MV) (r c Kx K : Nat) (hs : Sm 2 ivc w.heap w.heap.size B r q lx) (hg : ∀ y ∈ lx, GI w.heap y ∧ y.m.n ≤ Kx) (gx : GM w.heap x r c K) (hKx : Kx ≤ 8796093022000) (hK : K ≤ 8796093022000) :
    Cl Tryz.prog 46 #[.slice B r q, .agg (mvc x).toArray] w (RetLE w c (fun j => psum (fun t => ival (lx.getD t default) * ent x c t j) r) (Kx + K + r)) := by
  have hs0 := gx.sh
  obtain ⟨xr, xc, A1, n1, k1, l1⟩ := x
  obtain ⟨hr1, hc1, hr, hcc, hn1⟩ := hs0
  dsimp only at hr1 hc1 hn1
  subst hr1 hc1 hn1
  have gv : GM w.heap ⟨(1 : Nat), r, B, r, q, lx⟩ 1 r Kx := ⟨⟨rfl, rfl, by omega, hr, by rw [Nat.one_mul]⟩, hs, hg⟩
  refine enter Tryz.func46 rfl rfl rfl ?_
  have hF := Fr.refl w
  repeat' (first | (refine TL.isOp ?_; first | (refine TL.isCall ?_; refine TL.call rfl rfl ?_; first | (refine (chk_ok _ _ r c gx.sh).mono ?_; rintro _ wy ⟨rfl, hE⟩; replace hF := hF.exts hE; clear hE; refine Back.mk ?_) | (refine (mprod_ok _ ⟨(1 : Nat), r, B, r, q, lx⟩ ⟨r, c, A1, r * c, k1, l1⟩ 1 r c Kx K (gv.ext hF.ext) (gx.ext hF.ext) hKx hK).mono ?_; rintro _ wz ⟨zz, rfl, hLz, hE, hf⟩; obtain ⟨Az, kz, lz, rfl⟩ := lm_mk hLz; rw [mvc_mk _ _ Az]; replace hf := hf.mono hF.ext.size; replace hF := hF.exts hE; clear hE; refine Back.mk ?_)) | (refine TL.isBin ?_; refine TL.cmpG rfl rfl rfl rfl (fun hc => ?_) (fun hc => ?_) <;> (try (first | (exfalso; omega) | exact absurd rfl hc))) | (apply TL.ev; (case hd => rfl); (case h => (first | exact ev_simple rfl | (apply Ev.isLoad; first | exact ev_loadFr hF rfl (by refine ⟨?_, ?_⟩; (focus (repeat (first | exact InV.head | apply InV.tail))); rfl) | exact ev_loadAFr hF rfl (by refine ⟨?_, ?_⟩; (focus (repeat (first | exact InV.head | apply InV.tail))); rfl)) | exact ev_len rfl | exact ev_fieldAddr rfl | exact ev_field rfl rfl | exact ev_buildX rfl rfl))) | (refine TL.boxAFr hF (d := 3) (cs := [.int .i64 (r : Int), .int .i64 (c : Int), .slice A1 (r * c) k1]) rfl rfl ?_; clear hF; intro w3 b3 hF)) | (refine T.is ?_; first | refine T.seq ?_ | refine T.region ?_ | refine T.cond_f rfl ?_ | refine T.ret ?_ | refine T.skip ?_) | (refine G.is ?_; first | refine G.next ?_) | refine TL.nil ?_)
  refine G.ret2 rfl rfl rfl ⟨Az, kz, lz, by rw [Nat.one_mul], ⟨?_, fun j hj => ?_⟩, hF.ext, ?_⟩
  · have := hLz.s
    dsimp only at this
    rwa [Nat.one_mul] at this
  · have h1 := hLz.g 0 j (by omega) hj
    rw [Nat.zero_mul, Nat.zero_add] at h1
    have e1 : ∀ q1, ent ⟨(1 : Nat), r, B, r, q, lx⟩ r 0 q1 = ival (lx.getD q1 default) := fun q1 => by unfold ent; rw [Nat.zero_mul, Nat.zero_add]
    rw [psum_congr (g := fun t => ival (lx.getD t default) * ent ⟨r, c, A1, r * c, k1, l1⟩ c t j) (fun q1 _ => by rw [e1])] at h1
    exact h1
  · rcases hf with h | h
    · exact .inl (by dsimp only at h; rwa [Nat.one_mul] at h)
    · exact .inr h
set_option maxRecDepth 100000 in
theorem mvec_unfit (w : World) (B : Option Addr) (m q : Nat) (x : MV) (r c : Nat) (gx : Sound x r c) (hne : m ≠ r) :
    Cl Tryz.prog 46 #[.slice B m q, .agg (mvc x).toArray] w (RetLF w 2) := by
  have hs0 := gx
  obtain ⟨xr, xc, A1, n1, k1, l1⟩ := x
  obtain ⟨hr1, hc1, hr, hcc, hn1⟩ := hs0
  dsimp only at hr1 hc1 hn1
  subst hr1 hc1 hn1
  refine enter Tryz.func46 rfl rfl rfl ?_
  have hF := Fr.refl w
  repeat' (first | (refine TL.isOp ?_; first | (refine TL.isCall ?_; refine TL.call rfl rfl ?_; first | (refine (chk_ok _ _ r c gx).mono ?_; rintro _ wy ⟨rfl, hE⟩; replace hF := hF.exts hE; clear hE; refine Back.mk ?_)) | (refine TL.isBin ?_; refine TL.cmpG rfl rfl rfl rfl (fun hc => ?_) (fun hc => ?_) <;> (try (first | (exfalso; omega) | exact absurd rfl hc))) | (apply TL.ev; (case hd => rfl); (case h => (first | exact ev_simple rfl | (apply Ev.isLoad; first | exact ev_loadFr hF rfl (by refine ⟨?_, ?_⟩; (focus (repeat (first | exact InV.head | apply InV.tail))); rfl) | exact ev_loadAFr hF rfl (by refine ⟨?_, ?_⟩; (focus (repeat (first | exact InV.head | apply InV.tail))); rfl)) | exact ev_len rfl | exact ev_fieldAddr rfl))) | (refine TL.boxAFr hF (d := 3) (cs := [.int .i64 (r : Int), .int .i64 (c : Int), .slice A1 (r * c) k1]) rfl rfl ?_; clear hF; intro w3 b3 hF)) | (refine T.is ?_; first | refine T.seq ?_ | refine T.region ?_ | refine T.cond_t rfl ?_ | refine T.cond_f rfl ?_ | refine T.ret ?_ | refine T.skip ?_) | (refine G.is ?_; first | refine G.next ?_ | refine G.thenR ?_) | refine TL.nil ?_)
  exact G.ret2 rfl rfl rfl ⟨rfl, hF.ext⟩
def RetEq (w : World) (p : Prop) (e : Ending) (w' : World) : Prop := ∃ b : Bool, (b = true ↔ p) ∧ e = .returned (.tuple #[.bool b, .int .i64 0]) ∧ Ext w w'
set_option maxRecDepth 100000 in
theorem mequal_ok (w : World) (x y : MV) (r c r' c' Kx Ky : Nat) (gx : GM w.heap x r c Kx) (gy : GM w.heap y r' c' Ky) (hKx : Kx ≤ 1099511627776) (hKy : Ky ≤ 1099511627776) :
    Cl Tryz.prog 100 #[.agg (mvc x).toArray, .agg (mvc y).toArray] w (RetEq w (r = r' ∧ c = c' ∧ ∀ q, q < r * c → ival (x.l.getD q default) = ival (y.l.getD q default))) := by
  have h2 := sound_two gx.sh gy.sh
  have hs := gx.s
  have hs' := gy.s
  have sx := gx.sh
  have sy := gy.sh
  obtain ⟨xr, xc, A, n, k, l⟩ := x
  obtain ⟨yr, yc, A2, n2, k2, l2⟩ := y
  obtain ⟨h1, h2', h3, h4, h5⟩ := sx
  obtain ⟨h1', h2'', h3', h4', h5'⟩ := sy
  dsimp only at h1 h2' h5 h1' h2'' h5' hs hs'
  subst h1 h2' h5 h1' h2'' h5'
  have hm := mul64 h3 h4
  have hlen := hs.len
  have hlen' := hs'.len
  by_cases hne : r = r' ∧ c = c'
  · obtain ⟨rfl, rfl⟩ := hne
    refine enter Tryz.func100 rfl rfl rfl ?_
    have hF := Fr.refl w
    repeat' (first | (refine TL.isOp ?_; first | (refine TL.isG ?_; first | refine TL.grun rfl rfl rfl ?_) | (refine TL.isCall ?_; refine TL.call rfl rfl ?_; first | (refine (check_ok _ _ _ _ _ hSn h2 (by omega)).mono ?_; rintro _ wc ⟨rfl, hE⟩; replace hF := hF.exts hE; clear hE hSn; refine Back.mk ?_)) | (refine TL.isBin ?_; refine TL.cmpG rfl rfl rfl rfl (fun hc => ?_) (fun hc => ?_) <;> (try (first | (exfalso; omega) | exact absurd rfl hc))) | (apply TL.ev; (case hd => rfl); (case h => (first | exact ev_simple rfl | (apply Ev.isLoad; first | exact ev_loadFr hF rfl (by refine ⟨?_, ?_⟩; (focus (repeat (first | exact InV.head | apply InV.tail))); rfl) | exact ev_loadAFr hF rfl (by refine ⟨?_, ?_⟩; (focus (repeat (first | exact InV.head | apply InV.tail))); rfl)) | exact ev_len rfl | exact ev_fieldAddr rfl))) | (refine TL.boxAFr hF (d := 2) (cs := [.int .i64 (r : Int), .int .i64 (c : Int), .slice A (r * c) k]) rfl rfl ?_; clear hF; intro w2 b2 hF) | (refine TL.boxAFr hF (d := 3) (cs := [.int .i64 (r : Int), .int .i64 (c : Int), .slice A2 (r * c) k2]) rfl rfl ?_; clear hF; intro w3 b3 hF) | (refine TL.buildX2 (f := mvc) (u := ⟨r, c, A, r * c, k, l⟩) (v := ⟨r, c, A2, r * c, k2, l2⟩) rfl rfl rfl rfl rfl rfl rfl rfl rfl rfl (fun wn bn ebn hSn hE hzn => ?_); replace hF := hF.exts hE; clear hE hzn ebn)) | (refine T.is ?_; first | refine T.seq ?_ | refine T.region ?_ | refine T.block ?_ | refine T.cond_f rfl ?_ | refine T.skip ?_) | (refine G.is ?_; first | refine G.next ?_) | refine TL.nil ?_)
    refine T.loop (α := Nat) (fun i => [(2, .pointer (some ⟨b2, 0, none⟩)), (3, .pointer (some ⟨b3, 0, none⟩)), (29, .int .i64 ((r * c : Nat) : Int)), (30, .int .i64 (i : Int))])
      (fun i w' => i ≤ r * c ∧ (∀ q, q < i → ival (l.getD q default) = ival (l2.getD q default)) ∧ Fr w w' [⟨b3, 27, [.int .i64 (r : Int), .int .i64 (c : Int), .slice A2 (r * c) k2]⟩, ⟨b2, 27, [.int .i64 (r : Int), .int .i64 (c : Int), .slice A (r * c) k]⟩] []) (fun i => r * c - i) 0 (by repeat (first | exact Sub.nil _ | refine Sub.cons rfl ?_ | refine Sub.cons' rfl (int_congr (by omega)) ?_)) ⟨Nat.zero_le _, fun q hq => absurd hq (Nat.not_lt_zero _), hF⟩ ?_
    clear hF
    rintro i w2 ⟨hi, hq, hF⟩
    rcases Nat.lt_or_ge i (r * c) with hin | hin
    · have y1 : l[i]? = some (l.getD i default) := by simp [List.getD, show i < l.length by omega]
      have y2 : l2[i]? = some (l2.getD i default) := by simp [List.getD, show i < l2.length by omega]
      obtain ⟨g1, n1⟩ := gx.g _ (List.mem_of_getElem? y1)
      obtain ⟨g2, n2⟩ := gy.g _ (List.mem_of_getElem? y2)
      by_cases he : ival (l.getD i default) = ival (l2.getD i default)
      · have hz : cmpZ (ival (l.getD i default)) (ival (l2.getD i default)) = 0 := by rw [he]; simp [cmpZ]
        repeat' (first | (refine TL.isOp ?_; first | (refine TL.isCall ?_; refine TL.call rfl rfl ?_; first | (refine (zcmp_ok _ _ _ (g1.ext hF.ext) (g2.ext hF.ext) (by omega) (by omega)).mono ?_; rintro _ wc ⟨rfl, hE⟩; rw [hz]; replace hF := hF.exts hE; clear hE; refine Back.mk ?_)) | (refine TL.isBin ?_; refine TL.cmpG rfl rfl rfl rfl (fun hc => ?_) (fun hc => ?_) <;> (try (first | (exfalso; omega) | exact absurd rfl hc))) | (apply TL.ev; (case hd => rfl); (case h => (first | exact ev_simple rfl | (apply Ev.isBin; first | exact ev_arN rfl rfl rfl (by omega)))))) | (refine TF.is ?_; first | refine TF.nil ?_ | refine TF.e rfl ?_ | (refine TF.pick rfl ?_; first | (refine TFo.cmpG rfl rfl rfl rfl (fun hc => ?_) (fun hc => ?_) <;> (try (first | (exfalso; omega) | exact absurd rfl hc))) | (apply TFo.ev; (case hd => rfl); (case h => (intro wh hF; first | exact ev_simple rfl | (apply Ev.isLoad; first | exact ev_loadFr hF rfl (by refine ⟨?_, ?_⟩; (focus (repeat (first | exact InV.head | apply InV.tail))); rfl) | exact ev_loadM rfl (hs.ext hF.ext) y1 | exact ev_loadM rfl (hs'.ext hF.ext) y2) | exact ev_fieldAddr rfl | exact ev_indexM rfl rfl hin (hs.ext hF.ext).some | exact ev_indexM rfl rfl hin (hs'.ext hF.ext).some))))) | (refine T.is ?_; first | refine T.seq ?_ | refine T.region ?_ | refine T.block ?_ | refine T.cond_t rfl ?_ | refine T.cond_f rfl ?_ | refine T.skip ?_ | (refine T.regionFr hF 9 12 (.s 0 (.s 1 (.s 2 (.s 3 (.s 4 (.s 5 (.s 6 (.s 7 (.s 8 (.s 9 (.e 10 (.s 11 .nil)))))))))))) mixed (by kernel_rfl) ?_; clear hF; intro wr hF)) | (refine G.is ?_; first | refine G.next ?_ | refine G.blockN ?_ | refine G.only ?_ | refine G.tree rfl (by first | exact hF | exact hF.weak (by repeat (first | exact List.Sublist.refl _ | apply List.Sublist.cons)) (by repeat (first | exact allR | apply allT)) | exact hF.weak (by repeat (first | exact List.Sublist.refl _ | apply List.Sublist.cons)) (by repeat (first | exact allN | refine allH (by repeat (first | exact memH | apply memT)) ?_))) ?_) | refine TL.nil ?_)
        refine G.again (i + 1) (by repeat (first | exact Sub.nil _ | refine Sub.cons rfl ?_ | refine Sub.cons' rfl (int_congr (by omega)) ?_)) ⟨by omega, fun q hq' => ?_, hF⟩ (by omega)
        rcases Nat.lt_or_ge q i with h | h
        · exact hq q h
        · obtain rfl : q = i := by omega
          exact he
      · have hz : cmpZ (ival (l.getD i default)) (ival (l2.getD i default)) ≠ 0 := by unfold cmpZ; split <;> (try split) <;> omega
        have hzb : -1 ≤ cmpZ (ival (l.getD i default)) (ival (l2.getD i default)) ∧ cmpZ (ival (l.getD i default)) (ival (l2.getD i default)) ≤ 1 := by unfold cmpZ; split <;> (try split) <;> omega
        generalize hcz : cmpZ (ival (l.getD i default)) (ival (l2.getD i default)) = cz at hz hzb
        repeat' (first | (refine TL.isOp ?_; first | (refine TL.isCall ?_; refine TL.call rfl rfl ?_; first | (refine (zcmp_ok _ _ _ (g1.ext hF.ext) (g2.ext hF.ext) (by omega) (by omega)).mono ?_; rintro _ wc ⟨rfl, hE⟩; rw [hcz]; replace hF := hF.exts hE; clear hE; refine Back.mk ?_)) | (refine TL.isBin ?_; refine TL.cmpG rfl rfl rfl rfl (fun hc => ?_) (fun hc => ?_) <;> (try (first | (exfalso; omega) | exact absurd rfl hc))) | (apply TL.ev; (case hd => rfl); (case h => (first | exact ev_simple rfl)))) | (refine TF.is ?_; first | refine TF.nil ?_ | refine TF.e rfl ?_ | (refine TF.pick rfl ?_; first | (refine TFo.cmpG rfl rfl rfl rfl (fun hc => ?_) (fun hc => ?_) <;> (try (first | (exfalso; omega) | exact absurd rfl hc))) | (apply TFo.ev; (case hd => rfl); (case h => (intro wh hF; first | exact ev_simple rfl | (apply Ev.isLoad; first | exact ev_loadFr hF rfl (by refine ⟨?_, ?_⟩; (focus (repeat (first | exact InV.head | apply InV.tail))); rfl) | exact ev_loadM rfl (hs.ext hF.ext) y1 | exact ev_loadM rfl (hs'.ext hF.ext) y2) | exact ev_fieldAddr rfl | exact ev_indexM rfl rfl hin (hs.ext hF.ext).some | exact ev_indexM rfl rfl hin (hs'.ext hF.ext).some))))) | (refine T.is ?_; first | refine T.seq ?_ | refine T.region ?_ | refine T.block ?_ | refine T.cond_t rfl ?_ | refine T.ret ?_ | refine T.skip ?_ | (refine T.regionFr hF 9 12 (.s 0 (.s 1 (.s 2 (.s 3 (.s 4 (.s 5 (.s 6 (.s 7 (.s 8 (.s 9 (.e 10 (.s 11 .nil)))))))))))) mixed (by kernel_rfl) ?_; clear hF; intro wr hF)) | (refine G.is ?_; first | refine G.next ?_ | refine G.blockR ?_ | refine G.thenR ?_ | refine G.only ?_ | refine G.tree rfl (by first | exact hF | exact hF.weak (by repeat (first | exact List.Sublist.refl _ | apply List.Sublist.cons)) (by repeat (first | exact allR | apply allT)) | exact hF.weak (by repeat (first | exact List.Sublist.refl _ | apply List.Sublist.cons)) (by repeat (first | exact allN | refine allH (by repeat (first | exact memH | apply memT)) ?_))) ?_) | refine TL.nil ?_)
        exact G.ret2 rfl rfl rfl ⟨false, by constructor <;> intro h; cases h; exact absurd (h.2.2 i hin) he, rfl, hF.ext⟩
    · obtain rfl : i = r * c := by omega
      repeat' (first | (refine TL.isOp ?_; first | (refine TL.isBin ?_; refine TL.cmpG rfl rfl rfl rfl (fun hc => ?_) (fun hc => ?_) <;> (try (first | (exfalso; omega) | exact absurd rfl hc))) | (apply TL.ev; (case hd => rfl); (case h => (first | exact ev_simple rfl)))) | (refine T.is ?_; first | refine T.seq ?_ | refine T.region ?_ | refine T.cond_f rfl ?_ | refine T.exit ?_ | refine T.ret ?_) | (refine G.is ?_; first | refine G.next ?_ | refine G.blockE ?_ | refine G.thenE ?_) | refine TL.nil ?_)
      exact G.ret2 rfl rfl rfl ⟨true, ⟨fun _ => ⟨rfl, rfl, hq⟩, fun _ => rfl⟩, rfl, hF.ext⟩
  · refine enter Tryz.func100 rfl rfl rfl ?_
    have hF := Fr.refl w
    repeat' (first | (refine TL.isOp ?_; first | (refine TL.isG ?_; first | refine TL.grun rfl rfl rfl ?_ | refine TL.gskip rfl rfl rfl rfl ?_) | (refine TL.isCall ?_; refine TL.call rfl rfl ?_; first | (refine (check_ok _ _ _ _ _ hSn h2 (by omega)).mono ?_; rintro _ wc ⟨rfl, hE⟩; replace hF := hF.exts hE; clear hE hSn; refine Back.mk ?_)) | (refine TL.isBin ?_; refine TL.cmpG rfl rfl rfl rfl (fun hc => ?_) (fun hc => ?_) <;> (try (first | (exfalso; omega) | exact absurd rfl hc))) | (apply TL.ev; (case hd => rfl); (case h => (first | exact ev_simple rfl | (apply Ev.isLoad; first | exact ev_loadFr hF rfl (by refine ⟨?_, ?_⟩; (focus (repeat (first | exact InV.head | apply InV.tail))); rfl) | exact ev_loadAFr hF rfl (by refine ⟨?_, ?_⟩; (focus (repeat (first | exact InV.head | apply InV.tail))); rfl)) | exact ev_fieldAddr rfl))) | (refine TL.boxAFr hF (d := 2) (cs := [.int .i64 (r : Int), .int .i64 (c : Int), .slice A (r * c) k]) rfl rfl ?_; clear hF; intro w2 b2 hF) | (refine TL.boxAFr hF (d := 3) (cs := [.int .i64 (r' : Int), .int .i64 (c' : Int), .slice A2 (r' * c') k2]) rfl rfl ?_; clear hF; intro w3 b3 hF) | (refine TL.buildX2 (f := mvc) (u := ⟨r, c, A, r * c, k, l⟩) (v := ⟨r', c', A2, r' * c', k2, l2⟩) rfl rfl rfl rfl rfl rfl rfl rfl rfl rfl (fun wn bn ebn hSn hE hzn => ?_); replace hF := hF.exts hE; clear hE hzn ebn)) | (refine T.is ?_; first | refine T.seq ?_ | refine T.region ?_ | refine T.cond_t rfl ?_ | refine T.cond_f rfl ?_ | refine T.ret ?_ | refine T.skip ?_) | (refine G.is ?_; first | refine G.next ?_ | refine G.thenR ?_) | refine TL.nil ?_)
    all_goals first | exact G.ret2 rfl rfl rfl ⟨false, ⟨fun h => (by cases h), fun h => absurd ⟨h.1, h.2.1⟩ hne⟩, rfl, hF.ext⟩ | (exfalso; omega)
end Go.Proofs.YtlhmehikajidhaaGreat
namespace Go.Proofs.YtlhmehikajidhaaGreat
open Go Go.Eng Go.Proofs Go.NatM Go.RowKit
theorem ev_loadIz {P : Program} {σ : Store} {H : Array Obj} {d : Option Tmp} {t : TypeId} {pos : String} {af : Array Edge} {gd : Option (Nat × Bool)} {x : Operand} {ty : TypeId} [hO : UOne P ty] {B n c k : Nat} {A : Option Addr} {l : List Int} {z : Int}
    (hx : Eng.look σ x = some (.pointer (elemA A k))) (hs : Sl i64v H B A n c l) (hk : k < n) (e : l.getD k 0 = z) : Ev P σ H ⟨d, .load ty x, t, pos, af, gd⟩ (.int .i64 z) := e ▸ ev_loadI hx hs hk
set_option maxRecDepth 100000 in
theorem pick1_ok (w : World) (x : MV) (r c K : Nat) (gx : GM w.heap x r c K) (hK : K ≤ 35184372088832) (B B' : Option Addr) (m q m' q' : Nat) (lr lc : List Int) (hsr : Sl i64v w.heap w.heap.size B m q lr) (hsc : Sl i64v w.heap w.heap.size B' m' q' lc)
    (pa pb pc : Nat) (hVa : Vr w.heap pa 27 (mvc x)) (hVb : Vr w.heap pb 31 [.slice B m q]) (hVc : Vr w.heap pc 31 [.slice B' m' q']) (i j zi zj : Nat) (hi : i < m) (hj : j < m') (ei : lr.getD i 0 = (zi : Int)) (ej : lc.getD j 0 = (zj : Int)) (hzi : zi < r) (hzj : zj < c) (him : m ≤ 1048576) (hjm : m' ≤ 1048576) :
    Cl Tryz.prog 92 ([Value.int .i64 (i : Int), Value.int .i64 (j : Int)] ++ [Value.pointer (some ⟨pa, 0, none⟩), Value.pointer (some ⟨pb, 0, none⟩), Value.pointer (some ⟨pc, 0, none⟩)]).toArray w (RetZ w (ent x c zi zj) K) := by
  have hp := place_lt hzi hzj
  have hs0 := gx.sh
  have hs := gx.s
  obtain ⟨xr, xc, A1, n1, k1, l1⟩ := x
  obtain ⟨hr1, hc1, hr, hcc, hn1⟩ := hs0
  dsimp only at hr1 hc1 hn1 hs
  subst hr1 hc1 hn1
  have hm := mul64 hr hcc
  have hlen := hs.len
  have y1 : l1[zi * c + zj]? = some (l1.getD (zi * c + zj) default) := by simp [List.getD, show zi * c + zj < l1.length by omega]
  obtain ⟨g1, n1⟩ := gx.g _ (List.mem_of_getElem? y1)
  have hent : ent ⟨r, c, A1, r * c, k1, l1⟩ c zi zj = ival (l1.getD (zi * c + zj) default) := rfl
  rw [hent]
  generalize l1.getD (zi * c + zj) default = y at *
  have hz := fun w1 (hE : Ext w w1) => zleast_ok w1 y (g1.ext hE) (by omega)
  refine enter Tryz.func92 rfl rfl rfl ?_
  have hF := Fr.refl w
  repeat' (first | (refine TL.isOp ?_; first | (refine TL.isCall ?_; refine TL.call rfl rfl ?_; first | (refine (hz _ hF.ext).mono ?_; rintro _ w1 ⟨z, rfl, hL, hE, hK⟩; replace hF := Fr.addLI (hF.exts hE) hL; clear hE hL; refine Back.mk ?_)) | (refine TL.storeAFr hF rfl rfl rfl rfl (by refine ⟨?_, ?_⟩; (focus (repeat (first | apply SetV.head | apply SetV.tail))); rfl) rfl ?_; clear hF; intro ws hF) | (refine TL.allocFr hF (d := 7) rfl rfl ?_; clear hF; intro w7 b7 hF)) | (refine TF.is ?_; first | refine TF.nil ?_ | refine TF.e rfl ?_ | (refine TF.pick rfl ?_; first | (apply TFo.ev; (case hd => rfl); (case h => (intro wh hF; first | exact ev_simple rfl | (apply Ev.isBin; first | exact ev_arN rfl rfl rfl (by omega)) | (apply Ev.isLoad; first | exact ev_loadV rfl (hVa.ext hF.ext) rfl | exact ev_loadV rfl (hVb.ext hF.ext) rfl | exact ev_loadV rfl (hVc.ext hF.ext) rfl | exact ev_loadIz rfl (hsr.ext hF.ext) hi ei | exact ev_loadIz rfl (hsc.ext hF.ext) hj ej | exact ev_loadM rfl (hs.ext hF.ext) y1) | exact ev_fieldAddr rfl | exact ev_indexN rfl rfl hi (hsr.ext hF.ext).some | exact ev_indexN rfl rfl hj (hsc.ext hF.ext).some | exact ev_indexM rfl rfl hp (hs.ext hF.ext).some))))) | (refine T.is ?_; first | refine T.seq ?_ | refine T.region ?_ | refine T.ret ?_ | (refine T.regionFt hF 1 17 (.s 0 (.s 1 (.s 2 (.s 3 (.s 4 (.s 5 (.s 6 (.s 7 (.s 8 (.s 9 (.s 10 (.s 11 (.s 12 (.s 13 (.s 14 (.s 15 (.e 16 (.e 17 .nil)))))))))))))))))) mixed (by kernel_rfl) ?_; clear hF; intro wr hF)) | (refine G.is ?_; first | refine G.next ?_ | refine G.only ?_ | refine G.treeEnd rfl ?_ | refine G.tree rfl (by first | exact hF | exact hF.weak (by repeat (first | exact List.Sublist.refl _ | apply List.Sublist.cons)) (by repeat (first | exact allR | apply allT)) | exact hF.weak (by repeat (first | exact List.Sublist.refl _ | apply List.Sublist.cons)) (by repeat (first | exact allN | refine allH (by repeat (first | exact memH | apply memT)) ?_))) ?_) | refine TL.nil ?_)
  exact G.retC1 rfl rfl (held_agg (hF.var (by repeat (first | exact InV.head | apply InV.tail))) rfl) ⟨z, rfl, Fr.li hF (by repeat (first | exact memH | apply memT)), hF.ext, by omega⟩
def InL (l : List Int) (r : Nat) : Prop := ∀ z ∈ l, 0 ≤ z ∧ z < (r : Int)
open Classical in
noncomputable def RetPick (w : World) (x : MV) (r c K : Nat) (lr lc : List Int) (e : Ending) (w' : World) : Prop :=
  if InL lr r ∧ InL lc c then (if lr.length ≤ 64 ∧ lc.length ≤ 64 then RetME w lr.length lc.length (fun i j => ent x c (lr.getD i 0).toNat (lc.getD j 0).toNat) K e w' else RetMF w 5 e w') else RetMF w 3 e w'
theorem InL.at {l : List Int} {r i : Nat} (h : InL l r) (hi : i < l.length) : ∃ z : Nat, l.getD i 0 = (z : Int) ∧ z < r ∧ z = (l.getD i 0).toNat := by
  have e : l.getD i 0 = l[i] := by simp [List.getD, hi]
  obtain ⟨h1, h2⟩ := h l[i] (List.getElem_mem hi)
  exact ⟨l[i].toNat, by rw [e]; omega, by omega, by rw [e]⟩
theorem InL.of {l : List Int} {r : Nat} (h : ∀ q, q < l.length → 0 ≤ l.getD q 0 ∧ l.getD q 0 < (r : Int)) : InL l r := by
  intro z hz
  obtain ⟨q, hq⟩ := List.getElem?_of_mem hz
  have hlt := (List.getElem?_eq_some_iff.1 hq).1
  have := h q hlt
  simp only [List.getD, hq, Option.getD_some] at this
  exact this
theorem InL.not {l : List Int} {r q : Nat} (hq : q < l.length) (h : ¬ (0 ≤ l.getD q 0 ∧ l.getD q 0 < (r : Int))) : ¬ InL l r := fun hl => by
  obtain ⟨z, e, hz, _⟩ := hl.at hq
  exact h (by rw [e]; omega)
theorem pick_each {w : World} {x : MV} {r c K : Nat} {lr lc : List Int} {B B' : Option Addr} {m q m' q' pa pb pc : Nat} (hIr : InL lr r) (hIc : InL lc c) (hlr : lr.length = m) (hlc : lc.length = m') (gx : GM w.heap x r c K) (hK : K ≤ 35184372088832) (hsr : Sl i64v w.heap w.heap.size B m q lr) (hsc : Sl i64v w.heap w.heap.size B' m' q' lc)
    (hVa : Vr w.heap pa 27 (mvc x)) (hVb : Vr w.heap pb 31 [.slice B m q]) (hVc : Vr w.heap pc 31 [.slice B' m' q']) (him : m ≤ 1048576) (hjm : m' ≤ 1048576) :
    ∀ (i j : Nat) (w1 : World), i < m → j < m' → Ext w w1 → Cl Tryz.prog 92 ([Value.int .i64 (i : Int), Value.int .i64 (j : Int)] ++ [Value.pointer (some ⟨pa, 0, none⟩), Value.pointer (some ⟨pb, 0, none⟩), Value.pointer (some ⟨pc, 0, none⟩)]).toArray w1 (RetZ w1 ((fun i' j' => ent x c (lr.getD i' 0).toNat (lc.getD j' 0).toNat) i j) K) := by
  intro i j w1 hi hj hE
  obtain ⟨zi, ei, hzi, e1⟩ := hIr.at (show i < lr.length by omega)
  obtain ⟨zj, ej, hzj, e2⟩ := hIc.at (show j < lc.length by omega)
  dsimp only
  rw [← e1, ← e2]
  exact pick1_ok w1 x r c K (gx.ext hE) hK B B' m q m' q' lr lc (hsr.ext hE).size (hsc.ext hE).size pa pb pc (hVa.ext hE) (hVb.ext hE) (hVc.ext hE) i j zi zj hi hj ei ej hzi hzj him hjm
set_option maxRecDepth 100000 in
theorem mpick_ok (w : World) (x : MV) (r c K : Nat) (gx : GM w.heap x r c K) (hK : K ≤ 35184372088832) (B B' : Option Addr) (m q m' q' : Nat) (lr lc : List Int) (hsr : Sl i64v w.heap w.heap.size B m q lr) (hsc : Sl i64v w.heap w.heap.size B' m' q' lc) (him : m ≤ 1048576) (hjm : m' ≤ 1048576) :
    Cl Tryz.prog 50 #[.agg (mvc x).toArray, .slice B m q, .slice B' m' q'] w (RetPick w x r c K lr lc) := by
  have hs0 := gx.sh
  have hs := gx.s
  obtain ⟨xr, xc, A1, n1, k1, l1⟩ := x
  obtain ⟨hr1, hc1, hr, hcc, hn1⟩ := hs0
  dsimp only at hr1 hc1 hn1 hs
  subst hr1 hc1 hn1
  have hlr := hsr.len
  have hlc := hsc.len
  refine enter Tryz.func50 rfl rfl rfl ?_
  have hF := Fr.refl w
  repeat' (first | (refine TL.isOp ?_; first | (refine TL.isCall ?_; refine TL.call rfl rfl ?_; first | (refine (chk_ok _ _ r c gx.sh).mono ?_; rintro _ wy ⟨rfl, hE⟩; replace hF := hF.exts hE; clear hE; refine Back.mk ?_)) | (refine TL.isBin ?_; refine TL.cmpG rfl rfl rfl rfl (fun hc => ?_) (fun hc => ?_) <;> (try (first | (exfalso; omega) | exact absurd rfl hc))) | (apply TL.ev; (case hd => rfl); (case h => (first | exact ev_simple rfl | (apply Ev.isLoad; first | exact ev_loadFr hF rfl (by refine ⟨?_, ?_⟩; (focus (repeat (first | exact InV.head | apply InV.tail))); rfl) | exact ev_loadAFr hF rfl (by refine ⟨?_, ?_⟩; (focus (repeat (first | exact InV.head | apply InV.tail))); rfl)) | exact ev_len rfl))) | (refine TL.boxAFr hF (d := 3) (cs := [.int .i64 (r : Int), .int .i64 (c : Int), .slice A1 (r * c) k1]) rfl rfl ?_; clear hF; intro w3 b3 hF) | (refine TL.boxFr hF (d := 4) (v := .slice B m q) rfl rfl ?_; clear hF; intro w4 b4 hF) | (refine TL.boxFr hF (d := 5) (v := .slice B' m' q') rfl rfl ?_; clear hF; intro w5 b5 hF) | (refine TL.allocFr hF (d := 6) rfl rfl ?_; clear hF; intro w6 b6 hF)) | (refine T.is ?_; first | refine T.seq ?_ | refine T.region ?_ | refine T.block ?_ | refine T.cond_f rfl ?_ | refine T.skip ?_) | (refine G.is ?_; first | refine G.next ?_) | refine TL.nil ?_)
  refine T.loop (α := Nat) (fun i => [(3, .pointer (some ⟨b3, 0, none⟩)), (4, .pointer (some ⟨b4, 0, none⟩)), (5, .pointer (some ⟨b5, 0, none⟩)), (6, .pointer (some ⟨b6, 0, none⟩)), (7, .int .i64 0), (19, .slice B m q), (20, .int .i64 (m : Int)), (21, .int .i64 (i : Int))])
    (fun i w' => i ≤ m ∧ (∀ q, q < i → 0 ≤ lr.getD q 0 ∧ lr.getD q 0 < (r : Int)) ∧ Fr w w' [⟨b6, 27, [.int .i64 0, .int .i64 0, .slice none 0 0]⟩, ⟨b5, 31, [.slice B' m' q']⟩, ⟨b4, 31, [.slice B m q]⟩, ⟨b3, 27, [.int .i64 (r : Int), .int .i64 (c : Int), .slice A1 (r * c) k1]⟩] []) (fun i => m - i) 0 (by repeat (first | exact Sub.nil _ | refine Sub.cons rfl ?_ | refine Sub.cons' rfl (int_congr (by omega)) ?_)) ⟨Nat.zero_le _, fun q hq => absurd hq (Nat.not_lt_zero _), hF⟩ ?_
  clear hF
  rintro i w2 ⟨hi, hq, hF⟩
  rcases Nat.lt_or_ge i m with hin | hin
  · obtain ⟨z, hz⟩ : ∃ z, lr.getD i 0 = z := ⟨_, rfl⟩
    by_cases hzr : 0 ≤ z ∧ z < (r : Int)
    · repeat' (first | (refine TL.isOp ?_; first | (refine TL.isG ?_; first | refine TL.grun rfl rfl rfl ?_) | (refine TL.isBin ?_; refine TL.cmpG rfl rfl rfl rfl (fun hc => ?_) (fun hc => ?_) <;> (try (first | (exfalso; omega) | exact absurd rfl hc))) | (apply TL.ev; (case hd => rfl); (case h => (first | exact ev_simple rfl | (apply Ev.isBin; first | exact ev_arN rfl rfl rfl (by omega)) | (apply Ev.isLoad; first | exact ev_loadFr hF rfl (by refine ⟨?_, ?_⟩; (focus (repeat (first | exact InV.head | apply InV.tail))); rfl) | exact ev_loadIz rfl (hsr.ext hF.ext) hin hz) | exact ev_fieldAddr rfl | exact ev_indexN rfl rfl hin (hsr.ext hF.ext).some)))) | (refine T.is ?_; first | refine T.seq ?_ | refine T.region ?_ | refine T.block ?_ | refine T.cond_t rfl ?_ | refine T.cond_f rfl ?_ | refine T.skip ?_) | (refine G.is ?_; first | refine G.next ?_ | refine G.blockN ?_) | refine TL.nil ?_)
      refine G.again (i + 1) (by repeat (first | exact Sub.nil _ | refine Sub.cons rfl ?_ | refine Sub.cons' rfl (int_congr (by omega)) ?_)) ⟨by omega, fun q hq' => ?_, hF⟩ (by omega)
      rcases Nat.lt_or_ge q i with h | h
      · exact hq q h
      · obtain rfl : q = i := by omega
        rw [hz]; exact hzr
    · have hno : ¬ (InL lr r ∧ InL lc c) := fun h => InL.not (q := i) (by omega) (by rw [hz]; exact hzr) h.1
      repeat' (first | (refine TL.isOp ?_; first | (refine TL.isG ?_; first | refine TL.grun rfl rfl rfl ?_ | refine TL.gskip rfl rfl rfl rfl ?_) | (refine TL.isBin ?_; refine TL.cmpG rfl rfl rfl rfl (fun hc => ?_) (fun hc => ?_) <;> (try (first | (exfalso; omega) | exact absurd rfl hc))) | (apply TL.ev; (case hd => rfl); (case h => (first | exact ev_simple rfl | (apply Ev.isLoad; first | exact ev_loadFr hF rfl (by refine ⟨?_, ?_⟩; (focus (repeat (first | exact InV.head | apply InV.tail))); rfl) | exact ev_loadIz rfl (hsr.ext hF.ext) hin hz) | exact ev_fieldAddr rfl | exact ev_buildX rfl rfl | exact ev_indexN rfl rfl hin (hsr.ext hF.ext).some))) | (refine TL.storeAFr hF rfl rfl rfl rfl (by refine ⟨?_, ?_⟩; (focus (repeat (first | apply SetV.head | apply SetV.tail))); rfl) rfl ?_; clear hF; intro ws hF)) | (refine T.is ?_; first | refine T.seq ?_ | refine T.region ?_ | refine T.block ?_ | refine T.cond_t rfl ?_ | refine T.ret ?_ | refine T.skip ?_) | (refine G.is ?_; first | refine G.next ?_ | refine G.blockR ?_ | refine G.thenR ?_) | refine TL.nil ?_)
      all_goals first | exact G.retC2 rfl rfl rfl (held_agg (hF.var (by repeat (first | exact InV.head | apply InV.tail))) rfl) (by unfold RetPick; rw [if_neg hno]; exact ⟨rfl, hF.ext⟩) | (exfalso; omega)
  obtain rfl : i = m := by omega
  have hIr : InL lr r := InL.of (fun q hq' => hq q (by omega))
  clear hq hi hin
  repeat' (first | (refine TL.isOp ?_; first | (refine TL.isBin ?_; refine TL.cmpG rfl rfl rfl rfl (fun hc => ?_) (fun hc => ?_) <;> (try (first | (exfalso; omega) | exact absurd rfl hc))) | (apply TL.ev; (case hd => rfl); (case h => (first | exact ev_simple rfl | (apply Ev.isLoad; first | exact ev_loadFr hF rfl (by refine ⟨?_, ?_⟩; (focus (repeat (first | exact InV.head | apply InV.tail))); rfl)) | exact ev_len rfl)))) | (refine T.is ?_; first | refine T.seq ?_ | refine T.region ?_ | refine T.block ?_ | refine T.cond_f rfl ?_ | refine T.exit ?_) | (refine G.is ?_; first | refine G.next ?_ | refine G.blockE ?_ | refine G.thenE ?_) | refine TL.nil ?_)
  refine T.loop (α := Nat) (fun j => [(3, .pointer (some ⟨b3, 0, none⟩)), (4, .pointer (some ⟨b4, 0, none⟩)), (5, .pointer (some ⟨b5, 0, none⟩)), (6, .pointer (some ⟨b6, 0, none⟩)), (7, .int .i64 0), (35, .slice B' m' q'), (36, .int .i64 (m' : Int)), (37, .int .i64 (j : Int))])
    (fun j w' => j ≤ m' ∧ (∀ q, q < j → 0 ≤ lc.getD q 0 ∧ lc.getD q 0 < (c : Int)) ∧ Fr w w' [⟨b6, 27, [.int .i64 0, .int .i64 0, .slice none 0 0]⟩, ⟨b5, 31, [.slice B' m' q']⟩, ⟨b4, 31, [.slice B i q]⟩, ⟨b3, 27, [.int .i64 (r : Int), .int .i64 (c : Int), .slice A1 (r * c) k1]⟩] []) (fun j => m' - j) 0 (by repeat (first | exact Sub.nil _ | refine Sub.cons rfl ?_ | refine Sub.cons' rfl (int_congr (by omega)) ?_)) ⟨Nat.zero_le _, fun q hq => absurd hq (Nat.not_lt_zero _), hF⟩ ?_
  clear hF
  rintro j w3 ⟨hj, hq, hF⟩
  rcases Nat.lt_or_ge j m' with hjn | hjn
  · obtain ⟨z, hz⟩ : ∃ z, lc.getD j 0 = z := ⟨_, rfl⟩
    by_cases hzc : 0 ≤ z ∧ z < (c : Int)
    · repeat' (first | (refine TL.isOp ?_; first | (refine TL.isG ?_; first | refine TL.grun rfl rfl rfl ?_) | (refine TL.isBin ?_; refine TL.cmpG rfl rfl rfl rfl (fun hc => ?_) (fun hc => ?_) <;> (try (first | (exfalso; omega) | exact absurd rfl hc))) | (apply TL.ev; (case hd => rfl); (case h => (first | exact ev_simple rfl | (apply Ev.isBin; first | exact ev_arN rfl rfl rfl (by omega)) | (apply Ev.isLoad; first | exact ev_loadFr hF rfl (by refine ⟨?_, ?_⟩; (focus (repeat (first | exact InV.head | apply InV.tail))); rfl) | exact ev_loadIz rfl (hsc.ext hF.ext) hjn hz) | exact ev_fieldAddr rfl | exact ev_indexN rfl rfl hjn (hsc.ext hF.ext).some)))) | (refine T.is ?_; first | refine T.seq ?_ | refine T.region ?_ | refine T.block ?_ | refine T.cond_t rfl ?_ | refine T.cond_f rfl ?_ | refine T.skip ?_) | (refine G.is ?_; first | refine G.next ?_ | refine G.blockN ?_) | refine TL.nil ?_)
      refine G.again (j + 1) (by repeat (first | exact Sub.nil _ | refine Sub.cons rfl ?_ | refine Sub.cons' rfl (int_congr (by omega)) ?_)) ⟨by omega, fun q hq' => ?_, hF⟩ (by omega)
      rcases Nat.lt_or_ge q j with h | h
      · exact hq q h
      · obtain rfl : q = j := by omega
        rw [hz]; exact hzc
    · have hno : ¬ (InL lr r ∧ InL lc c) := fun h => InL.not (q := j) (by omega) (by rw [hz]; exact hzc) h.2
      repeat' (first | (refine TL.isOp ?_; first | (refine TL.isG ?_; first | refine TL.grun rfl rfl rfl ?_ | refine TL.gskip rfl rfl rfl rfl ?_) | (refine TL.isBin ?_; refine TL.cmpG rfl rfl rfl rfl (fun hc => ?_) (fun hc => ?_) <;> (try (first | (exfalso; omega) | exact absurd rfl hc))) | (apply TL.ev; (case hd => rfl); (case h => (first | exact ev_simple rfl | (apply Ev.isLoad; first | exact ev_loadFr hF rfl (by refine ⟨?_, ?_⟩; (focus (repeat (first | exact InV.head | apply InV.tail))); rfl) | exact ev_loadIz rfl (hsc.ext hF.ext) hjn hz) | exact ev_fieldAddr rfl | exact ev_buildX rfl rfl | exact ev_indexN rfl rfl hjn (hsc.ext hF.ext).some))) | (refine TL.storeAFr hF rfl rfl rfl rfl (by refine ⟨?_, ?_⟩; (focus (repeat (first | apply SetV.head | apply SetV.tail))); rfl) rfl ?_; clear hF; intro ws hF)) | (refine T.is ?_; first | refine T.seq ?_ | refine T.region ?_ | refine T.block ?_ | refine T.cond_t rfl ?_ | refine T.ret ?_ | refine T.skip ?_) | (refine G.is ?_; first | refine G.next ?_ | refine G.blockR ?_ | refine G.thenR ?_) | refine TL.nil ?_)
      all_goals first | exact G.retC2 rfl rfl rfl (held_agg (hF.var (by repeat (first | exact InV.head | apply InV.tail))) rfl) (by unfold RetPick; rw [if_neg hno]; exact ⟨rfl, hF.ext⟩) | (exfalso; omega)
  obtain rfl : j = m' := by omega
  have hIc : InL lc c := InL.of (fun q hq' => hq q (by omega))
  clear hq hj hjn
  by_cases h64 : i ≤ 64 ∧ j ≤ 64
  · repeat' (first | (refine TL.isOp ?_; first | (refine TL.isG ?_; first | refine TL.grun rfl rfl rfl ?_) | (refine TL.isCall ?_; refine TL.call rfl rfl ?_; first | (refine (build_ok _ i j h64.1 h64.2 92 [.pointer (some ⟨b3, 0, none⟩), .pointer (some ⟨b4, 0, none⟩), .pointer (some ⟨b5, 0, none⟩)] inferInstance (fun i' j' => ent ⟨r, c, A1, r * c, k1, l1⟩ c (lr.getD i' 0).toNat (lc.getD j' 0).toNat) K (pick_each hIr hIc hlr hlc (gx.ext hF.ext) hK (hsr.ext hF.ext).size (hsc.ext hF.ext).size (hF.var (by repeat (first | exact InV.head | apply InV.tail))) (hF.var (by repeat (first | exact InV.head | apply InV.tail))) (hF.var (by repeat (first | exact InV.head | apply InV.tail))) him hjm)).mono ?_; rintro _ wz ⟨zz, rfl, hLz, hE, hf⟩; obtain ⟨Az, kz, lz, rfl⟩ := lm_mk hLz; rw [mvc_mk _ _ Az]; have hfz := hf.mono hF.ext.size; replace hF := Fr.addLM hF hE hLz hf; clear hE hf hLz; refine Back.mk ?_)) | (refine TL.isBin ?_; refine TL.cmpG rfl rfl rfl rfl (fun hc => ?_) (fun hc => ?_) <;> (try (first | (exfalso; omega) | exact absurd rfl hc))) | (apply TL.ev; (case hd => rfl); (case h => (first | exact ev_simple rfl | (apply Ev.isLoad; first | exact ev_loadFr hF rfl (by refine ⟨?_, ?_⟩; (focus (repeat (first | exact InV.head | apply InV.tail))); rfl)) | exact ev_len rfl | exact ev_makeFunc rfl))) | (refine TL.storeAFr hF rfl rfl rfl rfl (by refine ⟨?_, ?_⟩; (focus (repeat (first | apply SetV.head | apply SetV.tail))); rfl) rfl ?_; clear hF; intro ws hF)) | (refine T.is ?_; first | refine T.seq ?_ | refine T.region ?_ | refine T.cond_f rfl ?_ | refine T.exit ?_ | refine T.ret ?_ | refine T.skip ?_) | (refine G.is ?_; first | refine G.next ?_ | refine G.blockE ?_ | refine G.thenE ?_) | refine TL.nil ?_)
    refine G.retC2 rfl rfl rfl (held_agg (hF.var (by repeat (first | exact InV.head | apply InV.tail))) rfl) ?_
    unfold RetPick
    rw [if_pos ⟨hIr, hIc⟩, if_pos (by omega), hlr, hlc]
    exact ⟨⟨i, j, Az, i * j, kz, lz⟩, rfl, Fr.lm hF (by repeat (first | exact memH | apply memT)), hF.ext, hfz⟩
  · repeat' (first | (refine TL.isOp ?_; first | (refine TL.isG ?_; first | refine TL.grun rfl rfl rfl ?_ | refine TL.gskip rfl rfl rfl rfl ?_) | (refine TL.isBin ?_; refine TL.cmpG rfl rfl rfl rfl (fun hc => ?_) (fun hc => ?_) <;> (try (first | (exfalso; omega) | exact absurd rfl hc))) | (apply TL.ev; (case hd => rfl); (case h => (first | exact ev_simple rfl | (apply Ev.isLoad; first | exact ev_loadFr hF rfl (by refine ⟨?_, ?_⟩; (focus (repeat (first | exact InV.head | apply InV.tail))); rfl)) | exact ev_len rfl | exact ev_buildX rfl rfl))) | (refine TL.storeAFr hF rfl rfl rfl rfl (by refine ⟨?_, ?_⟩; (focus (repeat (first | apply SetV.head | apply SetV.tail))); rfl) rfl ?_; clear hF; intro ws hF)) | (refine T.is ?_; first | refine T.seq ?_ | refine T.region ?_ | refine T.cond_t rfl ?_ | refine T.cond_f rfl ?_ | refine T.exit ?_ | refine T.ret ?_) | (refine G.is ?_; first | refine G.next ?_ | refine G.blockE ?_ | refine G.thenE ?_ | refine G.thenR ?_) | refine TL.nil ?_)
    all_goals first | exact G.retC2 rfl rfl rfl (held_agg (hF.var (by repeat (first | exact InV.head | apply InV.tail))) rfl) (by unfold RetPick; rw [if_pos ⟨hIr, hIc⟩, if_neg (by omega)]; exact ⟨rfl, hF.ext⟩) | (exfalso; omega)
end Go.Proofs.YtlhmehikajidhaaGreat
namespace Go.Proofs.YtlhmehikajidhaaGreat
open Go Go.Eng Go.Proofs Go.NatM Go.RowKit
theorem LM.congr {H : Array Obj} {x : MV} {r c K : Nat} {F G : Nat → Nat → Int} (h : LM H x r c F K) (e : ∀ i j, i < r → j < c → F i j = G i j) : LM H x r c G K := ⟨h.sh, h.s, fun i j hi hj => by rw [← e i j hi hj]; exact h.g i j hi hj⟩
theorem LM.more {H : Array Obj} {x : MV} {r c K K' : Nat} {F : Nat → Nat → Int} (h : LM H x r c F K) (e : K ≤ K') : LM H x r c F K' := ⟨h.sh, h.s, fun i j hi hj => ⟨(h.g i j hi hj).1, Nat.le_trans (h.g i j hi hj).2 e⟩⟩
def pb (n Ka : Nat) : Nat → Nat
  | 0 => 1
  | t + 1 => pb n Ka t + pb n Ka t + n + Ka + n
theorem pb_eq (n Ka t : Nat) : pb n Ka t + (2 * n + Ka) = 2 ^ t * (1 + 2 * n + Ka) := by
  induction t with
  | zero => rw [pb, Nat.pow_zero, Nat.one_mul]; omega
  | succ t ih => rw [pb, Nat.pow_succ, Nat.mul_comm (2 ^ t) 2, Nat.mul_assoc, ← ih]; omega
theorem pb_le {n Ka t : Nat} (h : t ≤ 9) : pb n Ka t ≤ 512 * (1 + 2 * n + Ka) := by
  have h1 := pb_eq n Ka t
  have h2 : 2 ^ t * (1 + 2 * n + Ka) ≤ 2 ^ 9 * (1 + 2 * n + Ka) := Nat.mul_le_mul_right _ (Nat.pow_le_pow_right (by omega) h)
  omega
theorem bits_k : ∀ t, t < 9 → ∀ k, k < 257 → k / (512 / 2 ^ (t + 1)) = k / (512 / 2 ^ t) + k / (512 / 2 ^ t) + (if k &&& 256 / 2 ^ t = 0 then 0 else 1) := by decide +kernel
theorem bits_h : ∀ t, t < 9 → 256 / 2 ^ t / 2 = 256 / 2 ^ (t + 1) ∧ 0 < 256 / 2 ^ t ∧ 256 / 2 ^ t ≤ 256 := by decide +kernel
structure Fam (n : Nat) (F : Nat → Nat → Nat → Int) : Prop where
  one : ∀ i j, i < n → j < n → F 0 i j = if i = j then 1 else 0
  mul : ∀ e f i j, i < n → j < n → psum (fun q => F e i q * F f q j) n = F (e + f) i j
set_option maxRecDepth 100000 in
theorem mpow_ok (w : World) (x : MV) (n K k : Nat) (gA : GM w.heap x n n K) (hK : K ≤ 1048576) (hk : k ≤ 256) (Fm : Nat → Nat → Nat → Int) (hfam : Fam n Fm) (h1 : ∀ i j, i < n → j < n → ent x n i j = Fm 1 i j) :
    Cl Tryz.prog 47 #[.agg (mvc x).toArray, .int .i64 (k : Int)] w (RetME w n n (Fm k) (pb n K 9)) := by
  have hs0 := gA.sh
  obtain ⟨xr, xc, A1, n1, k1, l1⟩ := x
  obtain ⟨hr1, hc1, hn, hn', hn1⟩ := hs0
  dsimp only at hr1 hc1 hn1
  subst hr1 hc1 hn1
  have hpb : ∀ t, t ≤ 9 → pb n K t ≤ 512 * (1 + 2 * n + K) := fun t ht => pb_le ht
  refine enter Tryz.func47 rfl rfl rfl ?_
  have hF := Fr.refl w
  repeat' (first | (refine TL.isOp ?_; first | (refine TL.isCall ?_; refine TL.call rfl rfl ?_; first | (refine (chk_ok _ _ n n gA.sh).mono ?_; rintro _ wy ⟨rfl, hE⟩; replace hF := hF.exts hE; clear hE; refine Back.mk ?_) | (refine (munit_ok _ n hn).mono ?_; rintro _ wu ⟨zu, rfl, hLu, hE, hf⟩; obtain ⟨Au, ku, lu, rfl⟩ := lm_mk hLu; rw [mvc_mk _ _ Au]; replace hLu := hLu.congr (G := Fm 0) (fun i j hi hj => (hfam.one i j hi hj).symm); have hfu := hf.mono hF.ext.size; replace hF := Fr.addLM hF hE hLu hf; clear hE hf; refine Back.mk ?_)) | (refine TL.isBin ?_; refine TL.cmpG rfl rfl rfl rfl (fun hc => ?_) (fun hc => ?_) <;> (try (first | (exfalso; omega) | exact absurd rfl hc))) | (apply TL.ev; (case hd => rfl); (case h => (first | exact ev_simple rfl | (apply Ev.isLoad; first | exact ev_loadFr hF rfl (by refine ⟨?_, ?_⟩; (focus (repeat (first | exact InV.head | apply InV.tail))); rfl) | exact ev_loadAFr hF rfl (by refine ⟨?_, ?_⟩; (focus (repeat (first | exact InV.head | apply InV.tail))); rfl)) | exact ev_fieldAddr rfl))) | (refine TL.storeAFr hF rfl rfl rfl rfl (by refine ⟨?_, ?_⟩; (focus (repeat (first | apply SetV.head | apply SetV.tail))); rfl) rfl ?_; clear hF; intro ws hF) | (refine TL.boxAFr hF (d := 2) (cs := [.int .i64 (n : Int), .int .i64 (n : Int), .slice A1 (n * n) k1]) rfl rfl ?_; clear hF; intro w2 b2 hF) | (refine TL.allocFr hF (d := 4) rfl rfl ?_; clear hF; intro w4 b4 hF) | (refine TL.allocFr hF (d := 6) rfl rfl ?_; clear hF; intro w6 b6 hF)) | (refine T.is ?_; first | refine T.seq ?_ | refine T.region ?_ | refine T.block ?_ | refine T.cond_f rfl ?_ | refine T.skip ?_) | (refine G.is ?_; first | refine G.next ?_ | refine G.blockN ?_) | refine TL.nil ?_)
  refine T.loop (α := Nat × Option Addr × Nat × List IV) (fun x => [(1, .int .i64 (k : Int)), (2, .pointer (some ⟨b2, 0, none⟩)), (4, .pointer (some ⟨b4, 0, none⟩)), (6, .pointer (some ⟨b6, 0, none⟩)), (8, .int .i64 ((256 / 2 ^ x.1 : Nat) : Int))])
    (fun x w' => x.1 ≤ 9 ∧ Fr w w' [⟨b6, 27, [.int .i64 (n : Int), .int .i64 (n : Int), .slice x.2.1 (n * n) x.2.2.1]⟩, ⟨b4, 27, [.int .i64 0, .int .i64 0, .slice none 0 0]⟩, ⟨b2, 27, [.int .i64 (n : Int), .int .i64 (n : Int), .slice A1 (n * n) k1]⟩] [dpLM ⟨n, n, x.2.1, n * n, x.2.2.1, x.2.2.2⟩ n n (Fm (k / (512 / 2 ^ x.1))) (pb n K x.1)] ∧ ∃ v, MF w ⟨n, n, x.2.1, n * n, x.2.2.1, x.2.2.2⟩ ∧ v = 0)
    (fun x => 9 - x.1) (0, Au, ku, lu) (Sub.cons rfl (Sub.cons rfl (Sub.cons rfl (Sub.cons rfl (Sub.cons' rfl (int_congr (show (256 : Int) = ((256 / 2 ^ 0 : Nat) : Int) by decide)) (Sub.nil _)))))) ⟨Nat.zero_le _, ?_, 0, hfu, rfl⟩ ?_
  · have e0 : k / (512 / 2 ^ 0) = 0 := Nat.div_eq_of_lt (by omega)
    dsimp only
    rw [e0]
    exact hF
  clear hF hLu hfu
  rintro ⟨t, Ap, kp, lp⟩ w2 ⟨ht, hF, _, hfp, _⟩
  dsimp only at ht hF hfp ⊢
  have hbt := hpb t ht
  rcases Nat.lt_or_ge t 9 with ht9 | ht9
  · have hLp := Fr.lm hF (x := ⟨n, n, Ap, n * n, kp, lp⟩) (by repeat (first | exact memH | apply memT))
    obtain ⟨hb1, hb2, hb3⟩ := bits_h t ht9
    have hb4 := bits_k t ht9 k (by omega)
    generalize hbv : 256 / 2 ^ t = bv at *
    by_cases hz : k &&& bv = 0
    · rw [if_pos hz] at hb4
      rw [Nat.add_zero] at hb4
      repeat' (first | (refine TL.isOp ?_; first | (refine TL.isCall ?_; refine TL.call rfl rfl ?_; first | (refine (mprod_ok _ ⟨n, n, Ap, n * n, kp, lp⟩ ⟨n, n, Ap, n * n, kp, lp⟩ n n n (pb n K t) (pb n K t) (by first | exact gA.ext hF.ext | exact gB.ext hF.ext | exact gC.ext hF.ext | exact gD.ext hF.ext | exact (Fr.lm hF (by repeat (first | exact memH | apply memT))).gm) (by first | exact gA.ext hF.ext | exact gB.ext hF.ext | exact gC.ext hF.ext | exact gD.ext hF.ext | exact (Fr.lm hF (by repeat (first | exact memH | apply memT))).gm) (by omega) (by omega)).mono ?_; rintro _ wz ⟨zz, rfl, hLz, hE, hf⟩; obtain ⟨Az, kz, lz, rfl⟩ := lm_mk hLz; rw [mvc_mk _ _ Az]; replace hLz := hLz.congr (G := Fm (k / (512 / 2 ^ t) + k / (512 / 2 ^ t))) (fun i j hi hj => (psum_congr (fun q hq => by rw [hLp.ent hi hq, hLp.ent hq hj])).trans (hfam.mul _ _ i j hi hj)); have hfz := hf.mono hF.ext.size; replace hF := Fr.addLM hF hE hLz hf; clear hE hf; refine Back.mk ?_)) | (refine TL.isBin ?_; refine TL.cmpG rfl rfl rfl rfl (fun hc => ?_) (fun hc => ?_) <;> (try (first | (exfalso; omega) | exact absurd rfl hc))) | (apply TL.ev; (case hd => rfl); (case h => (first | exact ev_simple rfl | (apply Ev.isBin; first | exact ev_arN rfl rfl rfl (by omega) | exact ev_andI rfl rfl (by omega) (by omega)) | (apply Ev.isLoad; first | exact ev_loadAFr hF rfl (by refine ⟨?_, ?_⟩; (focus (repeat (first | exact InV.head | apply InV.tail))); rfl))))) | (refine TL.storeAFr hF rfl rfl rfl rfl (by refine ⟨?_, ?_⟩; (focus (repeat (first | apply SetV.head | apply SetV.tail))); rfl) rfl ?_; clear hF; intro ws hF)) | (refine T.is ?_; first | refine T.seq ?_ | refine T.region ?_ | refine T.block ?_ | refine T.cond_t rfl ?_ | refine T.cond_f rfl ?_ | refine T.skip ?_) | (refine G.is ?_; first | refine G.next ?_ | refine G.blockN ?_) | refine TL.nil ?_)
      refine G.again (t + 1, Az, kz, lz) ?_ ⟨by dsimp only; omega, ?_, 0, hfz, rfl⟩ (by dsimp only; omega)
      · dsimp only
        rw [← hb1]
        exact (by repeat (first | exact Sub.nil _ | refine Sub.cons rfl ?_ | refine Sub.cons' rfl (int_congr (by omega)) ?_))
      · dsimp only
        rw [hb4]
        refine Fr.moreLM (hF.weak (List.Sublist.refl _) (allH (by repeat (first | exact memH | apply memT)) allN)) (fun _ h => h.more ?_)
        rw [pb]; omega
    · rw [if_neg hz] at hb4
      repeat' (first | (refine TL.isOp ?_; first | (refine TL.isCall ?_; refine TL.call rfl rfl ?_; first | (refine (mprod_ok _ ⟨n, n, Ap, n * n, kp, lp⟩ ⟨n, n, Ap, n * n, kp, lp⟩ n n n (pb n K t) (pb n K t) (by first | exact gA.ext hF.ext | exact gB.ext hF.ext | exact gC.ext hF.ext | exact gD.ext hF.ext | exact (Fr.lm hF (by repeat (first | exact memH | apply memT))).gm) (by first | exact gA.ext hF.ext | exact gB.ext hF.ext | exact gC.ext hF.ext | exact gD.ext hF.ext | exact (Fr.lm hF (by repeat (first | exact memH | apply memT))).gm) (by omega) (by omega)).mono ?_; rintro _ wz ⟨zz, rfl, hLz, hE, hf⟩; obtain ⟨Az, kz, lz, rfl⟩ := lm_mk hLz; rw [mvc_mk _ _ Az]; replace hLz := hLz.congr (G := Fm (k / (512 / 2 ^ t) + k / (512 / 2 ^ t))) (fun i j hi hj => (psum_congr (fun q hq => by rw [hLp.ent hi hq, hLp.ent hq hj])).trans (hfam.mul _ _ i j hi hj)); have hfz := hf.mono hF.ext.size; replace hF := Fr.addLM hF hE hLz hf; clear hE hf; refine Back.mk ?_) | (refine (mprod_ok _ ⟨n, n, Az, n * n, kz, lz⟩ ⟨n, n, A1, n * n, k1, l1⟩ n n n (pb n K t + pb n K t + n) (K) (by first | exact gA.ext hF.ext | exact gB.ext hF.ext | exact gC.ext hF.ext | exact gD.ext hF.ext | exact (Fr.lm hF (by repeat (first | exact memH | apply memT))).gm) (by first | exact gA.ext hF.ext | exact gB.ext hF.ext | exact gC.ext hF.ext | exact gD.ext hF.ext | exact (Fr.lm hF (by repeat (first | exact memH | apply memT))).gm) (by omega) (by omega)).mono ?_; rintro _ wy ⟨zy, rfl, hLy, hE, hf⟩; obtain ⟨Ay, ky, ly, rfl⟩ := lm_mk hLy; rw [mvc_mk _ _ Ay]; replace hLy := hLy.congr (G := Fm (k / (512 / 2 ^ t) + k / (512 / 2 ^ t) + 1)) (fun i j hi hj => (psum_congr (fun q hq => by rw [hLz.ent hi hq, h1 q j hq hj])).trans (hfam.mul _ _ i j hi hj)); have hfy := hf.mono hF.ext.size; replace hF := Fr.addLM hF hE hLy hf; clear hE hf; refine Back.mk ?_)) | (refine TL.isBin ?_; refine TL.cmpG rfl rfl rfl rfl (fun hc => ?_) (fun hc => ?_) <;> (try (first | (exfalso; omega) | exact absurd rfl hc))) | (apply TL.ev; (case hd => rfl); (case h => (first | exact ev_simple rfl | (apply Ev.isBin; first | exact ev_arN rfl rfl rfl (by omega) | exact ev_andI rfl rfl (by omega) (by omega)) | (apply Ev.isLoad; first | exact ev_loadAFr hF rfl (by refine ⟨?_, ?_⟩; (focus (repeat (first | exact InV.head | apply InV.tail))); rfl))))) | (refine TL.storeAFr hF rfl rfl rfl rfl (by refine ⟨?_, ?_⟩; (focus (repeat (first | apply SetV.head | apply SetV.tail))); rfl) rfl ?_; clear hF; intro ws hF)) | (refine T.is ?_; first | refine T.seq ?_ | refine T.region ?_ | refine T.block ?_ | refine T.cond_t rfl ?_ | refine T.skip ?_) | (refine G.is ?_; first | refine G.next ?_ | refine G.blockN ?_) | refine TL.nil ?_)
      refine G.again (t + 1, Ay, ky, ly) ?_ ⟨by dsimp only; omega, ?_, 0, hfy, rfl⟩ (by dsimp only; omega)
      · dsimp only
        rw [← hb1]
        exact (by repeat (first | exact Sub.nil _ | refine Sub.cons rfl ?_ | refine Sub.cons' rfl (int_congr (by omega)) ?_))
      · dsimp only
        rw [hb4]
        refine Fr.moreLM (hF.weak (List.Sublist.refl _) (allH (by repeat (first | exact memH | apply memT)) allN)) (fun _ h => h.more ?_)
        rw [pb]; omega
  · obtain rfl : t = 9 := by omega
    have e9 : k / (512 / 2 ^ 9) = k := Nat.div_one k
    rw [e9] at hF
    repeat' (first | (refine TL.isOp ?_; first | (refine TL.isBin ?_; refine TL.cmpG rfl rfl rfl rfl (fun hc => ?_) (fun hc => ?_) <;> (try (first | (exfalso; omega) | exact absurd rfl hc))) | (apply TL.ev; (case hd => rfl); (case h => (first | exact ev_simple rfl | (apply Ev.isLoad; first | exact ev_loadAFr hF rfl (by refine ⟨?_, ?_⟩; (focus (repeat (first | exact InV.head | apply InV.tail))); rfl))))) | (refine TL.storeAFr hF rfl rfl rfl rfl (by refine ⟨?_, ?_⟩; (focus (repeat (first | apply SetV.head | apply SetV.tail))); rfl) rfl ?_; clear hF; intro ws hF)) | (refine T.is ?_; first | refine T.seq ?_ | refine T.region ?_ | refine T.cond_f rfl ?_ | refine T.exit ?_ | refine T.ret ?_) | (refine G.is ?_; first | refine G.next ?_ | refine G.blockE ?_ | refine G.thenE ?_) | refine TL.nil ?_)
    exact G.retC2 rfl rfl rfl (held_agg (hF.var (by repeat (first | exact InV.head | apply InV.tail))) rfl) ⟨⟨n, n, Ap, n * n, kp, lp⟩, rfl, Fr.lm hF (by repeat (first | exact memH | apply memT)), hF.ext, hfp⟩
end Go.Proofs.YtlhmehikajidhaaGreat
namespace Go.Proofs.YtlhmehikajidhaaGreat
open Go Go.Eng Go.Proofs Go.NatM Go.RowKit
def mpw (M : Nat → Nat → Int) (n : Nat) : Nat → Nat → Nat → Int
  | 0, i, j => if i = j then 1 else 0
  | e + 1, i, j => psum (fun q => mpw M n e i q * M q j) n
theorem psum_unitR (f : Nat → Int) (j n : Nat) : psum (fun q => f q * (if q = j then 1 else 0)) n = if j < n then f j else 0 := by
  rw [psum_congr (g := fun q => (if j = q then 1 else 0) * f q) (fun q _ => by by_cases h : q = j <;> simp [h, Ne.symm, show ¬ j = q ↔ ¬ q = j from ⟨fun a b => a b.symm, fun a b => a b.symm⟩, eq_comm (a := j)]), psum_unit]
theorem mpw_fam (M : Nat → Nat → Int) (n : Nat) : Fam n (mpw M n) := by
  refine ⟨fun i j _ _ => rfl, ?_⟩
  intro e f
  induction f with
  | zero =>
    intro i j hi hj
    simp only [mpw, Nat.add_zero]
    rw [psum_unitR, if_pos hj]
  | succ f ih =>
    intro i j hi hj
    rw [← Nat.add_assoc]
    simp only [mpw]
    rw [psum_congr (g := fun q => psum (fun t => mpw M n e i q * (mpw M n f q t * M t j)) n) (fun q _ => (psum_mul _ _ _).symm), psum_swap]
    refine psum_congr fun t ht => ?_
    rw [psum_congr (g := fun q => (mpw M n e i q * mpw M n f q t) * M t j) (fun q _ => (Int.mul_assoc _ _ _).symm), psum_mulR, ih i t hi ht]
theorem mpw_one (M : Nat → Nat → Int) {n i j : Nat} (hi : i < n) : mpw M n 1 i j = M i j := by
  simp only [mpw]
  rw [psum_unit, if_pos hi]
theorem mpow_any (w : World) (x : MV) (n K k : Nat) (gA : GM w.heap x n n K) (hK : K ≤ 1048576) (hk : k ≤ 256) :
    Cl Tryz.prog 47 #[.agg (mvc x).toArray, .int .i64 (k : Int)] w (RetME w n n (mpw (ent x n) n k) (pb n K 9)) :=
  mpow_ok w x n K k gA hK hk (mpw (ent x n) n) (mpw_fam _ _) (fun i j hi hj => (mpw_one _ hi).symm)
def powE (r c : Nat) (z : Int) : Int := if r ≠ c then 2 else if z < 0 then 3 else 5
set_option maxRecDepth 100000 in
theorem mpow_no (w : World) (x : MV) (r c : Nat) (z : Int) (gx : Sound x r c) (h : ¬ (r = c ∧ 0 ≤ z ∧ z ≤ 256)) :
    Cl Tryz.prog 47 #[.agg (mvc x).toArray, .int .i64 z] w (RetMF w (powE r c z)) := by
  have hs0 := gx
  obtain ⟨xr, xc, A1, n1, k1, l1⟩ := x
  obtain ⟨hr1, hc1, hr, hcc, hn1⟩ := hs0
  dsimp only at hr1 hc1 hn1
  subst hr1 hc1 hn1
  unfold powE
  by_cases h1 : r = c
  · subst h1
    rw [if_neg (by simp)]
    by_cases h2 : z < 0
    · rw [if_pos h2]
      refine enter Tryz.func47 rfl rfl rfl ?_
      have hF := Fr.refl w
      repeat' (first | (refine TL.isOp ?_; first | (refine TL.isCall ?_; refine TL.call rfl rfl ?_; first | (refine (chk_ok _ _ r r gx).mono ?_; rintro _ wy ⟨rfl, hE⟩; replace hF := hF.exts hE; clear hE; refine Back.mk ?_)) | (refine TL.isBin ?_; refine TL.cmpG rfl rfl rfl rfl (fun hc => ?_) (fun hc => ?_) <;> (try (first | (exfalso; omega) | exact absurd rfl hc))) | (apply TL.ev; (case hd => rfl); (case h => (first | exact ev_simple rfl | (apply Ev.isLoad; first | exact ev_loadFr hF rfl (by refine ⟨?_, ?_⟩; (focus (repeat (first | exact InV.head | apply InV.tail))); rfl) | exact ev_loadAFr hF rfl (by refine ⟨?_, ?_⟩; (focus (repeat (first | exact InV.head | apply InV.tail))); rfl)) | exact ev_fieldAddr rfl | exact ev_buildX rfl rfl))) | (refine TL.storeAFr hF rfl rfl rfl rfl (by refine ⟨?_, ?_⟩; (focus (repeat (first | apply SetV.head | apply SetV.tail))); rfl) rfl ?_; clear hF; intro ws hF) | (refine TL.boxAFr hF (d := 2) (cs := [.int .i64 (r : Int), .int .i64 (r : Int), .slice A1 (r * r) k1]) rfl rfl ?_; clear hF; intro w2 b2 hF) | (refine TL.allocFr hF (d := 4) rfl rfl ?_; clear hF; intro w4 b4 hF)) | (refine T.is ?_; first | refine T.seq ?_ | refine T.region ?_ | refine T.block ?_ | refine T.cond_t rfl ?_ | refine T.cond_f rfl ?_ | refine T.ret ?_) | (refine G.is ?_; first | refine G.next ?_ | refine G.blockR ?_ | refine G.thenR ?_) | refine TL.nil ?_)
      exact G.retC2 rfl rfl rfl (held_agg (hF.var (by repeat (first | exact InV.head | apply InV.tail))) rfl) ⟨rfl, hF.ext⟩
    · rw [if_neg h2]
      refine enter Tryz.func47 rfl rfl rfl ?_
      have hF := Fr.refl w
      repeat' (first | (refine TL.isOp ?_; first | (refine TL.isCall ?_; refine TL.call rfl rfl ?_; first | (refine (chk_ok _ _ r r gx).mono ?_; rintro _ wy ⟨rfl, hE⟩; replace hF := hF.exts hE; clear hE; refine Back.mk ?_)) | (refine TL.isBin ?_; refine TL.cmpG rfl rfl rfl rfl (fun hc => ?_) (fun hc => ?_) <;> (try (first | (exfalso; omega) | exact absurd rfl hc))) | (apply TL.ev; (case hd => rfl); (case h => (first | exact ev_simple rfl | (apply Ev.isLoad; first | exact ev_loadFr hF rfl (by refine ⟨?_, ?_⟩; (focus (repeat (first | exact InV.head | apply InV.tail))); rfl) | exact ev_loadAFr hF rfl (by refine ⟨?_, ?_⟩; (focus (repeat (first | exact InV.head | apply InV.tail))); rfl)) | exact ev_fieldAddr rfl | exact ev_buildX rfl rfl))) | (refine TL.storeAFr hF rfl rfl rfl rfl (by refine ⟨?_, ?_⟩; (focus (repeat (first | apply SetV.head | apply SetV.tail))); rfl) rfl ?_; clear hF; intro ws hF) | (refine TL.boxAFr hF (d := 2) (cs := [.int .i64 (r : Int), .int .i64 (r : Int), .slice A1 (r * r) k1]) rfl rfl ?_; clear hF; intro w2 b2 hF) | (refine TL.allocFr hF (d := 4) rfl rfl ?_; clear hF; intro w4 b4 hF)) | (refine T.is ?_; first | refine T.seq ?_ | refine T.region ?_ | refine T.block ?_ | refine T.cond_t rfl ?_ | refine T.cond_f rfl ?_ | refine T.ret ?_) | (refine G.is ?_; first | refine G.next ?_ | refine G.blockR ?_ | refine G.thenR ?_) | refine TL.nil ?_)
      exact G.retC2 rfl rfl rfl (held_agg (hF.var (by repeat (first | exact InV.head | apply InV.tail))) rfl) ⟨rfl, hF.ext⟩
  · rw [if_pos h1]
    refine enter Tryz.func47 rfl rfl rfl ?_
    have hF := Fr.refl w
    repeat' (first | (refine TL.isOp ?_; first | (refine TL.isCall ?_; refine TL.call rfl rfl ?_; first | (refine (chk_ok _ _ r c gx).mono ?_; rintro _ wy ⟨rfl, hE⟩; replace hF := hF.exts hE; clear hE; refine Back.mk ?_)) | (refine TL.isBin ?_; refine TL.cmpG rfl rfl rfl rfl (fun hc => ?_) (fun hc => ?_) <;> (try (first | (exfalso; omega) | exact absurd rfl hc))) | (apply TL.ev; (case hd => rfl); (case h => (first | exact ev_simple rfl | (apply Ev.isLoad; first | exact ev_loadFr hF rfl (by refine ⟨?_, ?_⟩; (focus (repeat (first | exact InV.head | apply InV.tail))); rfl) | exact ev_loadAFr hF rfl (by refine ⟨?_, ?_⟩; (focus (repeat (first | exact InV.head | apply InV.tail))); rfl)) | exact ev_fieldAddr rfl | exact ev_buildX rfl rfl))) | (refine TL.storeAFr hF rfl rfl rfl rfl (by refine ⟨?_, ?_⟩; (focus (repeat (first | apply SetV.head | apply SetV.tail))); rfl) rfl ?_; clear hF; intro ws hF) | (refine TL.boxAFr hF (d := 2) (cs := [.int .i64 (r : Int), .int .i64 (c : Int), .slice A1 (r * c) k1]) rfl rfl ?_; clear hF; intro w2 b2 hF) | (refine TL.allocFr hF (d := 4) rfl rfl ?_; clear hF; intro w4 b4 hF)) | (refine T.is ?_; first | refine T.seq ?_ | refine T.region ?_ | refine T.block ?_ | refine T.cond_t rfl ?_ | refine T.cond_f rfl ?_ | refine T.ret ?_) | (refine G.is ?_; first | refine G.next ?_ | refine G.blockR ?_ | refine G.thenR ?_) | refine TL.nil ?_)
    exact G.retC2 rfl rfl rfl (held_agg (hF.var (by repeat (first | exact InV.head | apply InV.tail))) rfl) ⟨rfl, hF.ext⟩
def isSide (z : Int) : Prop := 0 ≤ z ∧ z ≤ 64
set_option maxRecDepth 100000 in
theorem munit_no (w : World) (z : Int) (h : ¬ isSide z) : Cl Tryz.prog 89 #[.int .i64 z] w (RetMF w 3) := by
  have hs := fun (w : World) => (side_ok w.heap z false (decide_eq_false h)).cl
  refine enter Tryz.func89 rfl rfl rfl ?_
  have hF := Fr.refl w
  repeat' (first | (refine TL.isOp ?_; first | (refine TL.isCall ?_; refine TL.call rfl rfl ?_; first | (refine (hs _).mono ?_; rintro _ wy ⟨rfl, hE⟩; replace hF := hF.exts hE.ext; clear hE; refine Back.mk ?_)) | (apply TL.ev; (case hd => rfl); (case h => (first | exact ev_simple rfl | exact ev_buildX rfl rfl))) | (refine TL.storeAFr hF rfl rfl rfl rfl (by refine ⟨?_, ?_⟩; (focus (repeat (first | apply SetV.head | apply SetV.tail))); rfl) rfl ?_; clear hF; intro ws hF) | (refine TL.allocFr hF (d := 2) rfl rfl ?_; clear hF; intro w2 b2 hF)) | (refine T.is ?_; first | refine T.seq ?_ | refine T.region ?_ | refine T.cond_t rfl ?_ | refine T.ret ?_) | (refine G.is ?_; first | refine G.next ?_ | refine G.thenR ?_) | refine TL.nil ?_)
  exact G.retC2 rfl rfl rfl (held_agg (hF.var (by repeat (first | exact InV.head | apply InV.tail))) rfl) ⟨rfl, hF.ext⟩
end Go.Proofs.YtlhmehikajidhaaGreat
namespace Go.Eng
open Go Go.RowKit
theorem sm_cells {α : Type} {f : α → List Value} {w : World} {k B n c : Nat} {A : Option Addr} {l : List α} (h : Sm k f w.heap B A n c l) {b o : Nat} (hA : A = some ⟨b, o, none⟩) : ∀ j v, (l.flatMap f)[j]? = some v → w.cell? ((⟨b, o, none⟩ : Addr).add j) = some v := by
  intro j v hv
  have hlen := h.len
  have hk := h.pos
  have hfl := flatMap_len h.wid
  have hj : j < l.length * k := by rw [← hfl]; exact (List.getElem?_eq_some_iff.1 hv).1
  rcases h.mem with h0 | ⟨b', o', e, _, hc⟩
  · rw [hlen, h0, Nat.zero_mul] at hj; omega
  · rw [hA] at e
    cases e
    rw [add_mk, cell_of_hcell]
    have h1 : j / k < l.length := Nat.div_lt_of_lt_mul (by rw [Nat.mul_comm]; exact hj)
    have h2 := flatMap_get h.wid (j / k) (j % k) l[j / k] (List.getElem?_eq_getElem h1) (Nat.mod_lt _ hk)
    rw [Nat.div_add_mod'] at h2
    have h3 := hc (j / k) l[j / k] (List.getElem?_eq_getElem h1) (j % k) v (by rw [← h2]; exact hv)
    rw [Nat.div_add_mod'] at h3
    exact h3
theorem zero_noU {z : List Value} (hz : z.all noU64 = true) (n : Nat) : (Builtin.zeroCells z.toArray n).toList.all noU64 = true := by
  rw [List.all_eq_true]
  intro v hv
  simp only [Builtin.zeroCells, Array.toList_map, List.mem_map] at hv
  obtain ⟨q, hq, rfl⟩ := hv
  have hq' : q < n * z.length := by simpa using hq
  have hlt : q % z.length < z.length := Nat.mod_lt _ (by rcases Nat.eq_zero_or_pos z.length with h | h; rw [h] at hq'; omega; exact h)
  have : z.toArray[q % z.toArray.size]! = z[q % z.length] := by simp [List.getElem?_eq_getElem hlt]
  rw [this]
  exact List.all_eq_true.1 hz _ (List.getElem_mem hlt)
section
variable {P : Program} {N : Fm} {Q : Exit → Act → World → Prop} {σ : Store} {S : Nat → Prop} {w0 w : World} {L : List VB} {D : List DP} {ops : Array Oper} {d : Nat} {t : TypeId} {pos : String} {af : Array Edge} {rest : List Oper}
theorem Fr.swap {a b : VB} (h : Fr w0 w (a :: b :: L) D S) : Fr w0 w (b :: a :: L) D S := by
  have hp : ∀ v, v ∈ b :: a :: L → v ∈ a :: b :: L := fun v hv => by simp only [List.mem_cons] at hv ⊢; rcases hv with h | h | h <;> simp [h]
  refine ⟨h.exs, fun v hv => h.vars v (hp v hv), ?_, h.data, fun v hv => h.apart v (hp v hv)⟩
  have hd := h.dist
  simp only [List.pairwise_cons, List.mem_cons] at hd ⊢
  refine ⟨fun v hv => ?_, fun v hv => hd.1 v (.inr hv), hd.2.2⟩
  rcases hv with rfl | hv
  · exact fun e => hd.1 b (.inl rfl) e.symm
  · exact hd.2.1 v hv
theorem TL.appendNilFr (hF : Fr w0 w L D S) {α : Type} (f : α → List Value) {x y : Operand} {ty e : TypeId} [hT : USlice P ty e] {z : List Value} {sz b1 : Nat} [hS : USize P e (.agg z.toArray) sz b1] {a : Addr} {m c' B : Nat} {l' : List α}
    (hx : look σ x = some (.slice none 0 0)) (hy : look σ y = some (.slice (some a) m c')) (hd : Nat.blt d N.n = true) (hs : Sm sz f w.heap B (some a) m c' l') (h1 : ∀ u, (f u).all (·.oneCell') = true) (hzl : Nat.beq z.length sz = true) (hzn : z.all noU64 = true)
    (hroom : m * b1 ≤ 140737488355328 ∧ m ≤ 4611686018427387904)
    (K0 : m = 0 → TL P N .seq ops Q rest ((d, .slice none 0 0) :: σ) w)
    (K : 0 < m → ∀ w' b c2 zs, m ≤ c2 → zs.length = (c2 - m) * sz → zs.all noU64 = true → Fr w0 w' (⟨b, e, l'.flatMap f ++ zs⟩ :: L) D S → TL P N .seq ops Q rest ((d, .slice (some ⟨b, 0, none⟩) m c2) :: σ) w') :
    TL P N .seq ops Q (⟨some d, .call { callee := .builtin .append, args := #[x, y], argTypes := #[ty, ty] }, t, pos, af, none⟩ :: rest) σ w := by
  obtain ⟨i, hi, hz0, hsz, hby⟩ := hS.info
  have hl' := hs.len
  have hzl' := Nat.eq_of_beq_eq_true hzl
  rcases Nat.eq_zero_or_pos m with h0 | h0
  · subst h0
    refine TL.op (fun ρ hρ => ?_) hd (K0 rfl)
    have : (Builtin.append_ #[ty, ty] t #[.slice none 0 0, .slice (some a) 0 c']).run P w = .ok (.slice none 0 0) w := by
      simp [Builtin.append_, run_underlying hT.out, sizeOf, typeInfo, hi, Builtin.lenOf, Builtin.firstCells, loadCells, loadCellsFrom]
    simp [execOp, resolve, invoke, builtin, hρ x _ hx, hρ y _ hy, this]
  · rcases hs.mem with h | ⟨b, o, hab, _, _⟩
    · omega
    cases hab
    have hlf := flatMap_len hs.wid
    have hr := run_append_nil (P := P) w ty t e i (.agg z.toArray) hT.out hi hz0 ⟨b, o, none⟩ m c' (l'.flatMap f) (by rw [hlf, hl', hsz]) (sm_cells hs rfl) h0 (by omega) (by rw [hby]; omega)
    have hge := grownCap_ge w m 0 e
    have hV : Vr (w.drew.alloc (.cells ((l'.flatMap f).toArray ++ Builtin.zeroCells z.toArray (grownCap w m 0 e - m)) e)).heap w.heap.size e (l'.flatMap f ++ (Builtin.zeroCells z.toArray (grownCap w m 0 e - m)).toList) := by
      unfold Vr
      have := heap_alloc w.drew (.cells ((l'.flatMap f).toArray ++ Builtin.zeroCells z.toArray (grownCap w m 0 e - m)) e)
      rw [show w.drew.heap.size = w.heap.size from rfl] at this
      rw [this]
      congr 2
      apply Array.ext'
      simp
    have hE : Ext w (w.drew.alloc (.cells ((l'.flatMap f).toArray ++ Builtin.zeroCells z.toArray (grownCap w m 0 e - m)) e)) := Ext.trans (ext_drewN w 1) (ext_alloc _ _)
    refine TL.op (fun ρ hρ => ?_) hd (K h0 _ _ _ _ hge (by rw [Array.length_toList, size_zeroCells, List.size_toArray, hzl']) (zero_noU hzn _) (hF.new rfl hV hE))
    simp only [Value.cells] at hr
    simp [execOp, resolve, invoke, builtin, hρ x _ hx, hρ y _ hy, hr]
theorem ev_loadMc {H : Array Obj} {d : Option Tmp} {gd : Option (Nat × Bool)} {x : Operand} {ty : TypeId} [hA : UAgg P ty] {z : Value} {sz b1 : Nat} [hS : USize P ty z sz b1] {α : Type} {f : α → List Value} {B n c i : Nat} {A : Option Addr} {l : List α} {y : α} (cs : List Value)
    (hx : look σ x = some (.pointer (elemA A (i * sz)))) (hs : Sm sz f H B A n c l) (hy : l[i]? = some y) (hc : f y = cs) : Ev P σ H ⟨d, .load ty x, t, pos, af, gd⟩ (.agg cs.toArray) := hc ▸ ev_loadM hx hs hy
theorem TL.appendZero {x y : Operand} {ty e : TypeId} [hT : USlice P ty e] {z : Value} {sz b1 : Nat} [hS : USize P e z sz b1] {A A' : Option Addr} {n c c' : Nat}
    (hx : look σ x = some (.slice A n c)) (hy : look σ y = some (.slice A' 0 c')) (hd : Nat.blt d N.n = true) (hn : n ≤ c)
    (K : TL P N .seq ops Q rest ((d, .slice A n c) :: σ) w) :
    TL P N .seq ops Q (⟨some d, .call { callee := .builtin .append, args := #[x, y], argTypes := #[ty, ty] }, t, pos, af, none⟩ :: rest) σ w := by
  obtain ⟨i, hi, hz0, hsz, hby⟩ := hS.info
  refine TL.op (fun ρ hρ => ?_) hd K
  have : (Builtin.append_ #[ty, ty] t #[.slice A n c, .slice A' 0 c']).run P w = .ok (.slice A n c) w := by
    cases A <;> cases A' <;> simp [Builtin.append_, run_underlying hT.out, sizeOf, typeInfo, hi, Builtin.lenOf, Builtin.firstCells, loadCells, loadCellsFrom, storeCells, hn]
  simp [execOp, resolve, invoke, builtin, hρ x _ hx, hρ y _ hy, this]
theorem TL.appendVFr {α : Type} {f : α → List Value} {g n c : Nat} {e : TypeId} {l : List α} {zs : List Value} (hF : Fr w0 w (⟨g, e, l.flatMap f ++ zs⟩ :: L) D S) {x y : Operand} {ty : TypeId} [hT : USlice P ty e] {z : List Value} {sz b1 : Nat} [hS : USize P e (.agg z.toArray) sz b1] {a : Addr} {m c' B : Nat} {l' : List α}
    (hx : look σ x = some (.slice (some ⟨g, 0, none⟩) n c)) (hy : look σ y = some (.slice (some a) m c')) (hd : Nat.blt d N.n = true) (hs : Sm sz f w.heap B (some a) m c' l') (h1 : ∀ u, (f u).all (·.oneCell') = true) (hw : ∀ u, (f u).length = sz) (hzl : Nat.beq z.length sz = true) (hzn : z.all noU64 = true)
    (hl : l.length = n) (hzs : zs.length = (c - n) * sz) (hnc : n ≤ c) (hno : (l.flatMap f ++ zs).all noU64 = true)
    (hroom : (n + m) * b1 ≤ 140737488355328 ∧ n + m ≤ 4611686018427387904)
    (K1 : n + m ≤ c → ∀ w', Fr w0 w' (⟨g, e, (l ++ l').flatMap f ++ zs.drop (m * sz)⟩ :: L) D S → TL P N .seq ops Q rest ((d, .slice (some ⟨g, 0, none⟩) (n + m) c) :: σ) w')
    (K2 : c < n + m → ∀ w' b c2 zs', n + m ≤ c2 → zs'.length = (c2 - (n + m)) * sz → zs'.all noU64 = true → Fr w0 w' (⟨b, e, (l ++ l').flatMap f ++ zs'⟩ :: ⟨g, e, l.flatMap f ++ zs⟩ :: L) D S → TL P N .seq ops Q rest ((d, .slice (some ⟨b, 0, none⟩) (n + m) c2) :: σ) w') :
    TL P N .seq ops Q (⟨some d, .call { callee := .builtin .append, args := #[x, y], argTypes := #[ty, ty] }, t, pos, af, none⟩ :: rest) σ w := by
  obtain ⟨i, hi, hz0, hsz, hby⟩ := hS.info
  have hl' := hs.len
  have hzl' := Nat.eq_of_beq_eq_true hzl
  have hlf : (l.flatMap f).length = n * sz := by rw [flatMap_len (fun x _ => hw x), hl]
  have hlf' : (l'.flatMap f).length = m * sz := by rw [flatMap_len hs.wid, hl']
  have hV := hF.var .head
  obtain ⟨b0, o0, hab⟩ : ∃ b0 o0, (a = ⟨b0, o0, none⟩ ∨ m = 0) := by
    rcases hs.mem with h | ⟨b, o, h, _⟩
    · exact ⟨0, 0, .inr h⟩
    · cases h; exact ⟨b, o, .inl rfl⟩
  have hnews : ∀ j v, (l'.flatMap f)[j]? = some v → w.cell? (a.add j) = some v := by
    rcases hab with rfl | h
    · exact sm_cells hs rfl
    · intro j v hv
      have := (List.getElem?_eq_some_iff.1 hv).1
      rw [hlf', h, Nat.zero_mul] at this; omega
  have holds : ∀ j v, (l.flatMap f)[j]? = some v → w.cell? ((⟨g, 0, none⟩ : Addr).add j) = some v := fun j v hv => by
    rw [add_mk, cell_of_hcell, Nat.zero_add, hV.cell, List.getElem?_append_left (List.getElem?_eq_some_iff.1 hv).1]; exact hv
  have h1' : ∀ u ∈ l'.flatMap f, u.oneCell' = true := fun u hu => by
    obtain ⟨q, _, hq⟩ := List.mem_flatMap.1 hu
    exact List.all_eq_true.1 (h1 q) u hq
  rcases Nat.lt_or_ge c (n + m) with hcm | hcm
  · have hr := run_append_grow (P := P) w ty t e i (.agg z.toArray) hT.out hi hz0 ⟨g, 0, none⟩ n c (l.flatMap f) (by rw [hlf, hsz]) holds a m c' (l'.flatMap f) (by rw [hlf', hsz]) hnews (by omega) (by omega) (growslice_fits (by omega) (by rw [hby]; exact hroom.1))
    have hge := grownCap_ge w (n + m) c e
    have hV2 : Vr (w.drew.alloc (.cells ((l.flatMap f).toArray ++ (l'.flatMap f).toArray ++ Builtin.zeroCells z.toArray (grownCap w (n + m) c e - (n + m))) e)).heap w.heap.size e ((l ++ l').flatMap f ++ (Builtin.zeroCells z.toArray (grownCap w (n + m) c e - (n + m))).toList) := by
      unfold Vr
      have := heap_alloc w.drew (.cells ((l.flatMap f).toArray ++ (l'.flatMap f).toArray ++ Builtin.zeroCells z.toArray (grownCap w (n + m) c e - (n + m))) e)
      rw [show w.drew.heap.size = w.heap.size from rfl] at this
      rw [this]
      congr 2
      apply Array.ext'
      simp
    have hE : Ext w (w.drew.alloc (.cells ((l.flatMap f).toArray ++ (l'.flatMap f).toArray ++ Builtin.zeroCells z.toArray (grownCap w (n + m) c e - (n + m))) e)) := Ext.trans (ext_drewN w 1) (ext_alloc _ _)
    refine TL.op (fun ρ hρ => ?_) hd (K2 hcm _ _ _ _ hge (by rw [Array.length_toList, size_zeroCells, List.size_toArray, hzl']) (zero_noU hzn _) (hF.new rfl hV2 hE))
    simp only [Value.cells] at hr
    simp [execOp, resolve, invoke, builtin, hρ x _ hx, hρ y _ hy, hr]
  · have hms : m * sz ≤ (c - n) * sz := Nat.mul_le_mul_right _ (by omega)
    have hr := run_append_room (P := P) w ty t e i hT.out hi g n c (l.flatMap f ++ zs).toArray hV a m c' (l'.flatMap f) (by rw [hlf', hsz]) hnews h1' hcm (by simp [hlf, hlf', hsz, hzs]; omega)
    have e1 : List.take (n * sz) (l.flatMap f ++ zs) = l.flatMap f := by rw [← hlf, List.take_left]
    have e2 : List.drop (n * sz + (l'.flatMap f).length) (l.flatMap f ++ zs) = zs.drop (m * sz) := by rw [← hlf, hlf', List.drop_append, List.drop_of_length_le (by omega)]; simp
    refine TL.op (w' := w.setRow g ((l.flatMap f) ++ l'.flatMap f ++ zs.drop (m * sz)).toArray) (fun ρ hρ => ?_) hd (K1 hcm _ (hF.store .head hno (upd_setRow _ _ _) ?_))
    · simp only [execOp, resolve, invoke, builtin, Sem.run_bind, Sem.run_pure, Result.andThen_ok, List.map_toArray, List.map_cons, List.map_nil, hρ x _ hx, hρ y _ hy]
      rw [hr]
      simp only [Result.andThen_ok, Sem.run_pure, hsz]
      rw [e1, e2]
    · unfold Vr at hV ⊢
      rw [setRow_heap w g _ _ e _ hV, List.flatMap_append]
end
end Go.Eng
