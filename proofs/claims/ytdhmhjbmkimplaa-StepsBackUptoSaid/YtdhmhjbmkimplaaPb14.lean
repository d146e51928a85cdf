/- Exact division: contracts of divnat.Exact, zint.Exact. Layer 9: MatTurns (printed by genturns.py). Layer 9: calls at unsound matrices (printed by genmati.py). Layer 9: zint's Sign, Cmp, Sub. Layer 11: the law's det: elimination without fractions in a list of integers. Layer 11: the law's det, walked. Engine: pointers held against nil; two results in memory. Layer 11: tapes that are nil. Layer 11: a new tape, its Undo and Redo; the law StepsNil. zint.Of at -1. Layer 11: the law's signs; the law StepsBack. Layer 11: the law StepsProducts. -/
import Derived.Test.YtdhmhjbmkimplaaPb13
import Derived.Test.YtdhmhjbmkimplaaPb8
import Derived.Test.YtdhmhjbmkimplaaPb7
import Derived.Test.YtdhmhjbmkimplaaPb5
import Derived.Test.YtdhmhjbmkimplaaPb11
import Derived.Test.YtdhmhjbmkimplaaPb10
import Derived.Test.YtdhmhjbmkimplaaPb3
import Derived.Test.YtdhmhjbmkimplaaPb12
set_option linter.unusedVariables false
set_option linter.unusedSimpArgs false
namespace Go.Proofs.Ytdhmhjbmkimplaa
open Go Go.Eng Go.Proofs Go.NatM Go.RowKit

theorem dexact_ok (w : World) (B B' : Nat) (A A' : Option Addr) (m c n c' q : Nat) (lx ly : List Nat) (hs : Sl u64v w.heap B A m c lx) (hs' : Sl u64v w.heap B' A' n c' ly) (hu : U64 lx) (hu' : U64 ly) (hm : m ≤ 8796093022208) (hn : n ≤ 8796093022208) (h0 : val ly ≠ 0) (h : val lx = q * val ly) :
    Cl Try.prog 86 #[.slice A m c, .slice A' n c'] w (RetNE w (dig q) m 0) := by
  have e1 : val lx / val ly = q := by rw [h]; exact Nat.mul_div_cancel _ (by omega)
  have e2 : val lx % val ly = 0 := by rw [h]; exact Nat.mul_mod_left _ _
  replace hs := hs.size
  replace hs' := hs'.size
  refine enter Try.func86 rfl rfl rfl ?_
  have hF := Fr.refl w
  repeat' (first | (refine TL.isOp ?_; first | (refine TL.isCall ?_; refine TL.call rfl rfl ?_; first | (refine (divMod_ok _ _ _ A A' m c n c' lx ly (hs.ext hF.ext) (hs'.ext hF.ext) hu hu' hm hn h0).mono ?_; rintro _ wl ⟨A3, n3, c3, A4, n4, c4, rfl, hO3, hO4, hE, hK3, hK4⟩; rw [e1] at hO3; rw [e2, dig_zero] at hO4; obtain rfl : n4 = 0 := hO4.len.symm; replace hO3 := hO3.mono hF.exs.size; have hE0 := hF.ext.trans hE; clear hF hO4 hE; have hF := Fr.refl wl; refine Back.mk ?_)) | (refine TL.isBin ?_; refine TL.cmpG rfl rfl rfl rfl (fun hc => ?_) (fun hc => ?_) <;> (try (first | (exfalso; omega) | exact absurd rfl hc))) | (apply TL.ev; (case hd => rfl); (case h => (first | exact ev_simple rfl | exact ev_len rfl)))) | (refine T.is ?_; first | refine T.seq ?_ | refine T.region ?_ | refine T.cond_f rfl ?_ | refine T.ret ?_ | refine T.skip ?_) | (refine G.is ?_; first | refine G.next ?_) | refine TL.nil ?_)
  exact G.ret2 rfl rfl rfl (RetNE.mk (hO3.ext hF.ext) (hE0.trans hF.ext) hK3)
theorem sgn_div {a b : Bool} {m n : Nat} {q : Int} (hn : n ≠ 0) (h : sgn a m = q * sgn b n) : sgn (a != b) q.natAbs = q ∧ m = q.natAbs * n := by
  have e1 : m = q.natAbs * n := by
    have := congrArg Int.natAbs h
    rwa [Int.natAbs_mul, sgn_abs, sgn_abs] at this
  refine ⟨?_, e1⟩
  have hn' : (0 : Int) < n := by omega
  have hpos : 0 < q → 0 < q * (n : Int) := fun h => Int.mul_pos h hn'
  have hneg : q < 0 → q * (n : Int) < 0 := fun h => Int.mul_neg_of_neg_of_pos h hn'
  unfold sgn at h ⊢
  cases a <;> cases b <;> simp only [if_true, if_false, Bool.false_eq_true, bne_self_eq_false, Bool.true_bne, Bool.false_bne, Bool.not_true, Bool.not_false, Bool.bne_true, Bool.bne_false, Int.mul_neg] at h ⊢ <;>
    (rcases Int.lt_trichotomy q 0 with h1 | h1 | h1
     · have := hneg h1; omega
     · subst h1; rfl
     · have := hpos h1; omega)
set_option maxRecDepth 100000 in
theorem zexact_ok (w : World) (x y : IV) (q : Int) (gx : GI w.heap x) (gy : GI w.heap y) (hx : x.m.n ≤ 8796093022208) (hy : y.m.n ≤ 8796093022208) (hy0 : ival y ≠ 0) (h : ival x = q * ival y) :
    Cl Try.prog 72 #[.agg (ivc x).toArray, .agg (ivc y).toArray] w (RetZE w q x.m.n) := by
  have hs := gx.s
  have hu := gx.u
  have hs' := gy.s
  have hu' := gy.u
  have hvy : val y.m.l ≠ 0 := fun e => hy0 (by unfold ival; rw [e]; unfold sgn; split <;> rfl)
  obtain ⟨e1, e2⟩ := sgn_div hvy h
  clear h hy0 gx gy
  obtain ⟨xs, ⟨xA, xn, xc, xl⟩⟩ := x
  obtain ⟨ys, ⟨yA, yn, yc, yl⟩⟩ := y
  dsimp only at hs hu hs' hu' hvy e1 e2 hx hy
  refine enter Try.func72 rfl rfl rfl ?_
  have hF := Fr.refl w
  repeat' (first | (refine TL.isOp ?_; first | (refine TL.isCall ?_; refine TL.call rfl rfl ?_; first | (refine (dexact_ok _ _ _ xA yA xn xc yn yc q.natAbs xl yl (hs.ext hF.ext) (hs'.ext hF.ext) hu hu' hx hy hvy e2).mono ?_; rintro _ wl ⟨A3, n3, c3, rfl, hO3, hE3, hK3⟩; have hS3 := hO3.sl (Nat.le_refl _); replace hF := Fr.addSl (hF.exts hE3) hS3; clear hO3 hS3 hE3; refine Back.mk ?_) | (refine (of_ok _ (xs != ys) A3 n3 c3 q.natAbs (Fr.sl hF (by repeat (first | exact memH | apply memT)))).mono ?_; rintro _ wo ⟨rfl, hLo, hEo⟩; rw [e1] at hLo; replace hF := Fr.addLI (hF.exts hEo) hLo; clear hLo hEo; refine Back.mk ?_)) | (refine TL.isBin ?_; refine TL.cmpG rfl rfl rfl rfl (fun hc => ?_) (fun hc => ?_) <;> (try (first | (exfalso; omega) | exact absurd rfl hc))) | (apply TL.ev; (case hd => rfl); (case h => (first | exact ev_simple rfl | (apply Ev.isBin; first | exact ev_neqB (r := xs != ys) rfl rfl rfl) | (apply Ev.isLoad; first | exact ev_loadFr hF rfl (by refine ⟨?_, ?_⟩; (focus (repeat (first | exact InV.head | apply InV.tail))); rfl)) | exact ev_fieldAddr rfl))) | (refine TL.storeAFr hF rfl rfl rfl rfl (by refine ⟨?_, ?_⟩; (focus (repeat (first | apply SetV.head | apply SetV.tail))); rfl) rfl ?_; clear hF; intro ws hF) | (refine TL.boxAFr hF (d := 2) (cs := [.bool xs, .slice xA xn xc]) rfl rfl ?_; clear hF; intro w2 b2 hF) | (refine TL.boxAFr hF (d := 3) (cs := [.bool ys, .slice yA yn yc]) rfl rfl ?_; clear hF; intro w3 b3 hF) | (refine TL.allocFr hF (d := 4) rfl rfl ?_; clear hF; intro w4 b4 hF)) | (refine T.is ?_; first | refine T.seq ?_ | refine T.region ?_ | refine T.cond_f rfl ?_ | refine T.ret ?_ | refine T.skip ?_) | (refine G.is ?_; first | refine G.next ?_) | refine TL.nil ?_)
  exact G.retC2 rfl rfl rfl (held_agg (hF.var (b := b4) (by repeat (first | exact InV.head | apply InV.tail))) rfl) ⟨⟨(xs != ys) && decide (0 < n3), ⟨A3, n3, c3, _⟩⟩, rfl, Fr.li hF (by repeat (first | exact memH | apply memT)), hF.ext, hK3⟩
end Go.Proofs.Ytdhmhjbmkimplaa

namespace Go.Proofs.Ytdhmhjbmkimplaa
open Go Go.Eng Go.Proofs Go.NatM Go.RowKit

end Go.Proofs.Ytdhmhjbmkimplaa

namespace Go.Proofs.Ytdhmhjbmkimplaa
open Go Go.Eng Go.Proofs Go.NatM Go.RowKit

end Go.Proofs.Ytdhmhjbmkimplaa

namespace Go.Proofs.Ytdhmhjbmkimplaa
open Go Go.Eng Go.Proofs Go.NatM Go.RowKit

theorem zsign_ok (w : World) (x : IV) (g : GI w.heap x) (hn : x.m.n ≤ 1099511627776) : Cl Try.prog 57 #[.agg (ivc x).toArray] w (fun e w' => e = .returned (.int .i64 (sig (ival x))) ∧ Ext w w') := by
  obtain ⟨yn, ⟨A1, n1, c1, l1⟩⟩ := x
  obtain ⟨b, hb⟩ : ∃ b, bl (val l1) = b := ⟨_, rfl⟩
  have hb0 : b = 0 ↔ val l1 = 0 := by rw [← hb]; unfold bl; constructor <;> intro h <;> (try split at h) <;> simp_all
  have hs := g.s
  have hu := g.u
  dsimp only at hs hu hn
  have hbl := fun w1 (hE : Ext w w1) => (bitlen_ok w1.heap _ A1 n1 c1 l1 (hs.ext hE) hu (by omega)).cl
  rw [hb] at hbl
  by_cases h0 : b = 0
  · have e : sig (ival ⟨yn, ⟨A1, n1, c1, l1⟩⟩) = 0 := by have := hb0.1 h0; simp [sig, ival, sgn, this]
    rw [e]
    refine enter Try.func57 rfl rfl rfl ?_
    have hF := Fr.refl w
    repeat' (first | (refine TL.isOp ?_; first | (refine TL.isCall ?_; refine TL.call rfl rfl ?_; first | (refine (hbl _ hF.ext).mono ?_; rintro _ w1 ⟨rfl, hE⟩; replace hF := hF.exts hE.ext; clear hE; refine Back.mk ?_)) | (refine TL.isBin ?_; refine TL.cmpG rfl rfl rfl rfl (fun hc => ?_) (fun hc => ?_) <;> (try (first | (exfalso; omega) | exact absurd rfl hc))) | (apply TL.ev; (case hd => rfl); (case h => (first | exact ev_simple rfl | (apply Ev.isLoad; first | exact ev_loadFr hF rfl (by refine ⟨?_, ?_⟩; (focus (repeat (first | exact InV.head | apply InV.tail))); rfl)) | exact ev_fieldAddr rfl))) | (refine TL.boxAFr hF (d := 1) (cs := [.bool yn, .slice A1 n1 c1]) rfl rfl ?_; clear hF; intro w1 b1 hF)) | (refine T.is ?_; first | refine T.seq ?_ | refine T.region ?_ | refine T.block ?_ | refine T.cond_t rfl ?_ | refine T.ret ?_) | (refine G.is ?_; first | refine G.next ?_ | refine G.blockR ?_ | refine G.thenR ?_) | refine TL.nil ?_)
    exact G.ret1 rfl rfl ⟨rfl, hF.ext⟩
  · have h1 : val l1 ≠ 0 := fun h => h0 (hb0.2 h)
    cases yn with
    | true =>
      have e : sig (ival ⟨true, ⟨A1, n1, c1, l1⟩⟩) = -1 := by simp only [sig, ival, sgn, if_true]; rw [if_pos (by omega)]
      rw [e]
      refine enter Try.func57 rfl rfl rfl ?_
      have hF := Fr.refl w
      repeat' (first | (refine TL.isOp ?_; first | (refine TL.isCall ?_; refine TL.call rfl rfl ?_; first | (refine (hbl _ hF.ext).mono ?_; rintro _ w1 ⟨rfl, hE⟩; replace hF := hF.exts hE.ext; clear hE; refine Back.mk ?_)) | (refine TL.isBin ?_; refine TL.cmpG rfl rfl rfl rfl (fun hc => ?_) (fun hc => ?_) <;> (try (first | (exfalso; omega) | exact absurd rfl hc))) | (apply TL.ev; (case hd => rfl); (case h => (first | exact ev_simple rfl | (apply Ev.isLoad; first | exact ev_loadFr hF rfl (by refine ⟨?_, ?_⟩; (focus (repeat (first | exact InV.head | apply InV.tail))); rfl)) | exact ev_fieldAddr rfl))) | (refine TL.boxAFr hF (d := 1) (cs := [.bool true, .slice A1 n1 c1]) rfl rfl ?_; clear hF; intro w1 b1 hF)) | (refine T.is ?_; first | refine T.seq ?_ | refine T.region ?_ | refine T.block ?_ | refine T.cond_t rfl ?_ | refine T.cond_f rfl ?_ | refine T.ret ?_) | (refine G.is ?_; first | refine G.next ?_ | refine G.blockR ?_ | refine G.thenR ?_) | refine TL.nil ?_)
      exact G.ret1 rfl rfl ⟨rfl, hF.ext⟩
    | false =>
      have e : sig (ival ⟨false, ⟨A1, n1, c1, l1⟩⟩) = 1 := by simp only [sig, ival, sgn, Bool.false_eq_true, if_false]; rw [if_neg (by omega), if_neg (by omega)]
      rw [e]
      refine enter Try.func57 rfl rfl rfl ?_
      have hF := Fr.refl w
      repeat' (first | (refine TL.isOp ?_; first | (refine TL.isCall ?_; refine TL.call rfl rfl ?_; first | (refine (hbl _ hF.ext).mono ?_; rintro _ w1 ⟨rfl, hE⟩; replace hF := hF.exts hE.ext; clear hE; refine Back.mk ?_)) | (refine TL.isBin ?_; refine TL.cmpG rfl rfl rfl rfl (fun hc => ?_) (fun hc => ?_) <;> (try (first | (exfalso; omega) | exact absurd rfl hc))) | (apply TL.ev; (case hd => rfl); (case h => (first | exact ev_simple rfl | (apply Ev.isLoad; first | exact ev_loadFr hF rfl (by refine ⟨?_, ?_⟩; (focus (repeat (first | exact InV.head | apply InV.tail))); rfl)) | exact ev_fieldAddr rfl))) | (refine TL.boxAFr hF (d := 1) (cs := [.bool false, .slice A1 n1 c1]) rfl rfl ?_; clear hF; intro w1 b1 hF)) | (refine T.is ?_; first | refine T.seq ?_ | refine T.region ?_ | refine T.block ?_ | refine T.cond_f rfl ?_ | refine T.ret ?_ | refine T.skip ?_) | (refine G.is ?_; first | refine G.next ?_ | refine G.blockN ?_) | refine TL.nil ?_)
      exact G.ret1 rfl rfl ⟨rfl, hF.ext⟩
def cmpZ (a b : Int) : Int := if a < b then -1 else if b < a then 1 else 0
theorem cmpZ_sig {x y : IV} (h : sig (ival x) = sig (ival y)) : sig (ival x) * cmp3 (val x.m.l) (val y.m.l) = cmpZ (ival x) (ival y) := by
  have e1 := ival_abs x
  have e2 := ival_abs y
  revert h e1 e2
  generalize ival x = a
  generalize ival y = b
  generalize val x.m.l = m
  generalize val y.m.l = n
  intro h e1 e2
  subst e1 e2
  unfold sig cmpZ cmp3 at *
  by_cases ha : a < 0 <;> by_cases hb : b < 0 <;> by_cases ha0 : a = 0 <;> by_cases hb0 : b = 0 <;> simp [ha, hb, ha0, hb0] at h ⊢ <;> (try omega)
  all_goals (repeat split) <;> omega
theorem cmpZ_ne {a b : Int} (h : sig a ≠ sig b) : (if sig a < sig b then -1 else 1) = cmpZ a b := by
  unfold sig cmpZ at *
  by_cases ha : a < 0 <;> by_cases hb : b < 0 <;> by_cases ha0 : a = 0 <;> by_cases hb0 : b = 0 <;> simp [ha, hb, ha0, hb0] at h ⊢ <;> (try omega)
  all_goals (repeat split) <;> omega
theorem zcmp_ok (w : World) (x y : IV) (g : GI w.heap x) (g' : GI w.heap y) (hn : x.m.n ≤ 1099511627776) (hn' : y.m.n ≤ 1099511627776) : Cl Try.prog 53 #[.agg (ivc x).toArray, .agg (ivc y).toArray] w (fun e w' => e = .returned (.int .i64 (cmpZ (ival x) (ival y))) ∧ Ext w w') := by
  have hsx := fun w1 (hE : Ext w w1) => zsign_ok w1 x (g.ext hE) hn
  have hsy := fun w1 (hE : Ext w w1) => zsign_ok w1 y (g'.ext hE) hn'
  have hcm := fun w1 (hE : Ext w w1) => (cmp_eqX w1.heap _ _ _ _ _ _ _ _ _ _ (g.s.ext hE) (g'.s.ext hE) g.u g'.u (by omega) (by omega) rfl).cl
  have hc1 := cmpZ_sig (x := x) (y := y)
  have hc2 := cmpZ_ne (a := ival x) (b := ival y)
  obtain ⟨sx, hsx'⟩ : ∃ s, sig (ival x) = s := ⟨_, rfl⟩
  obtain ⟨sy, hsy'⟩ : ∃ s, sig (ival y) = s := ⟨_, rfl⟩
  obtain ⟨q, hq'⟩ : ∃ s, cmp3 (val x.m.l) (val y.m.l) = s := ⟨_, rfl⟩
  have hqb : -1 ≤ q ∧ q ≤ 1 := by rw [← hq']; unfold cmp3; split <;> (try split) <;> omega
  have hb : -1 ≤ sx ∧ sx ≤ 1 := by rw [← hsx']; unfold sig; split <;> (try split) <;> omega
  rw [hsx'] at hsx hc1 hc2
  rw [hsy'] at hsy hc1 hc2
  rw [hq'] at hcm hc1
  generalize cmpZ (ival x) (ival y) = cz at *
  obtain ⟨xn, ⟨A1, n1, c1, l1⟩⟩ := x
  obtain ⟨yn, ⟨A2, n2, c2, l2⟩⟩ := y
  by_cases h : sx = sy
  · have hm : -1 ≤ sx * q ∧ sx * q ≤ 1 := by
      have h3 : sx = -1 ∨ sx = 0 ∨ sx = 1 := by omega
      rcases h3 with rfl | rfl | rfl <;> omega
    subst h
    refine enter Try.func53 rfl rfl rfl ?_
    have hF := Fr.refl w
    repeat' (first | (refine TL.isOp ?_; first | (refine TL.isCall ?_; refine TL.call rfl rfl ?_; first | (refine (hsx _ hF.ext).mono ?_; rintro _ w1 ⟨rfl, hE⟩; replace hF := hF.exts hE; clear hE; refine Back.mk ?_) | (refine (hsy _ hF.ext).mono ?_; rintro _ w1 ⟨rfl, hE⟩; replace hF := hF.exts hE; clear hE; refine Back.mk ?_) | (refine (hcm _ hF.ext).mono ?_; rintro _ w1 ⟨rfl, hE⟩; replace hF := hF.exts hE.ext; clear hE; refine Back.mk ?_)) | (refine TL.isBin ?_; refine TL.cmpG rfl rfl rfl rfl (fun hc => ?_) (fun hc => ?_) <;> (try (first | (exfalso; omega) | exact absurd rfl hc))) | (apply TL.ev; (case hd => rfl); (case h => (first | exact ev_simple rfl | (apply Ev.isBin; first | exact ev_arI rfl rfl rfl (by omega)) | (apply Ev.isLoad; first | exact ev_loadFr hF rfl (by refine ⟨?_, ?_⟩; (focus (repeat (first | exact InV.head | apply InV.tail))); rfl)) | exact ev_fieldAddr rfl))) | (refine TL.boxAFr hF (d := 2) (cs := [.bool xn, .slice A1 n1 c1]) rfl rfl ?_; clear hF; intro w2 b2 hF) | (refine TL.boxAFr hF (d := 3) (cs := [.bool yn, .slice A2 n2 c2]) rfl rfl ?_; clear hF; intro w3 b3 hF)) | (refine TF.is ?_; first | refine TF.nil ?_ | refine TF.e rfl ?_ | (refine TF.pick rfl ?_; first | (apply TFo.ev; (case hd => rfl); (case h => (intro wh hF; first | exact ev_simple rfl | (apply Ev.isLoad; first | exact ev_loadAFr hF rfl (by refine ⟨?_, ?_⟩; (focus (repeat (first | exact InV.head | apply InV.tail))); rfl))))))) | (refine T.is ?_; first | refine T.seq ?_ | refine T.region ?_ | refine T.cond_f rfl ?_ | refine T.ret ?_ | refine T.skip ?_ | (refine T.regionFr hF 1 6 (.s 0 (.s 2 (.e 1 (.e 3 (.s 4 (.s 5 .nil)))))) mixed (by kernel_rfl) ?_; clear hF; intro wr hF)) | (refine G.is ?_; first | refine G.next ?_ | refine G.only ?_ | refine G.tree rfl (by first | exact hF | exact hF.weak (List.sublist_append_right _ _) (by repeat (first | exact allR | apply allT)) | exact hF.weak (by repeat (first | exact List.Sublist.refl _ | apply List.Sublist.cons)) (by repeat (first | exact allR | apply allT)) | exact hF.weak (by repeat (first | exact List.Sublist.refl _ | apply List.Sublist.cons)) (by repeat (first | exact allN | refine allH (by repeat (first | exact memH | apply memT)) ?_))) ?_) | refine TL.nil ?_)
    exact G.ret1 rfl rfl ⟨by rw [hc1 rfl], hF.ext⟩
  · have hz := hc2 h
    refine enter Try.func53 rfl rfl rfl ?_
    have hF := Fr.refl w
    repeat' (first | (refine TL.isOp ?_; first | (refine TL.isCall ?_; refine TL.call rfl rfl ?_; first | (refine (hsx _ hF.ext).mono ?_; rintro _ w1 ⟨rfl, hE⟩; replace hF := hF.exts hE; clear hE; refine Back.mk ?_) | (refine (hsy _ hF.ext).mono ?_; rintro _ w1 ⟨rfl, hE⟩; replace hF := hF.exts hE; clear hE; refine Back.mk ?_)) | (refine TL.isBin ?_; refine TL.cmpG rfl rfl rfl rfl (fun hc => ?_) (fun hc => ?_) <;> (try (first | (exfalso; omega) | exact absurd rfl hc))) | (apply TL.ev; (case hd => rfl); (case h => (first | exact ev_simple rfl))) | (refine TL.boxAFr hF (d := 2) (cs := [.bool xn, .slice A1 n1 c1]) rfl rfl ?_; clear hF; intro w2 b2 hF) | (refine TL.boxAFr hF (d := 3) (cs := [.bool yn, .slice A2 n2 c2]) rfl rfl ?_; clear hF; intro w3 b3 hF)) | (refine TF.is ?_; first | refine TF.nil ?_ | refine TF.e rfl ?_ | (refine TF.pick rfl ?_; first | (apply TFo.ev; (case hd => rfl); (case h => (intro wh hF; first | exact ev_simple rfl | (apply Ev.isLoad; first | exact ev_loadAFr hF rfl (by refine ⟨?_, ?_⟩; (focus (repeat (first | exact InV.head | apply InV.tail))); rfl))))))) | (refine T.is ?_; first | refine T.seq ?_ | refine T.region ?_ | refine T.cond_t rfl ?_ | refine T.cond_f rfl ?_ | refine T.ret ?_ | refine T.skip ?_ | (refine T.regionFr hF 1 6 (.s 0 (.s 2 (.e 1 (.e 3 (.s 4 (.s 5 .nil)))))) mixed (by kernel_rfl) ?_; clear hF; intro wr hF)) | (refine G.is ?_; first | refine G.next ?_ | refine G.thenR ?_ | refine G.only ?_ | refine G.tree rfl (by first | exact hF | exact hF.weak (List.sublist_append_right _ _) (by repeat (first | exact allR | apply allT)) | exact hF.weak (by repeat (first | exact List.Sublist.refl _ | apply List.Sublist.cons)) (by repeat (first | exact allR | apply allT)) | exact hF.weak (by repeat (first | exact List.Sublist.refl _ | apply List.Sublist.cons)) (by repeat (first | exact allN | refine allH (by repeat (first | exact memH | apply memT)) ?_))) ?_) | refine TL.nil ?_)
    · exact G.ret1 rfl rfl ⟨by rw [← hz, if_pos (by assumption)], hF.ext⟩
    · exact G.ret1 rfl rfl ⟨by rw [← hz, if_neg (by assumption)], hF.ext⟩
theorem ev_notB {P : Program} {σ : Store} {H : Array Obj} {d : Option Tmp} {t : TypeId} {pos : String} {af : Array Edge} {gd : Option (Nat × Bool)} {x : Operand} {ty : TypeId} {b : Bool} (h : Eng.look σ x = some (.bool b)) : Ev P σ H ⟨d, .unOp .not ty x, t, pos, af, gd⟩ (.bool !b) := by
  cases b with
  | true => exact ev_not_t h
  | false => exact ev_not_f h
theorem ival_neg (n : Bool) (m : SA Nat) : ival ⟨!n, m⟩ = - ival ⟨n, m⟩ := by unfold ival sgn; cases n <;> simp
theorem zsub_ok (w : World) (x y : IV) (gx : GI w.heap x) (gy : GI w.heap y) (hx : x.m.n ≤ 17592186044416) (hy : y.m.n ≤ 17592186044416) : Cl Try.prog 73 #[.agg (ivc x).toArray, .agg (ivc y).toArray] w (RetZ w (ival x - ival y) (max x.m.n y.m.n + 1)) := by
  obtain ⟨xn, ⟨A1, n1, c1, l1⟩⟩ := x
  obtain ⟨yn, ⟨A2, n2, c2, l2⟩⟩ := y
  have ha := fun w1 (hE : Ext w w1) => zadd_ok w1 ⟨xn, ⟨A1, n1, c1, l1⟩⟩ ⟨!yn, ⟨A2, n2, c2, l2⟩⟩ (gx.ext hE) ⟨(gy.ext hE).s, gy.u⟩ hx hy
  rw [ival_neg, ← Int.sub_eq_add_neg] at ha
  dsimp only at ha ⊢
  refine enter Try.func73 rfl rfl rfl ?_
  have hF := Fr.refl w
  repeat' (first | (refine TL.isOp ?_; first | (refine TL.isCall ?_; refine TL.call rfl rfl ?_; first | (refine (ha _ hF.ext).mono ?_; rintro _ w1 ⟨z, rfl, hL, hE, hK⟩; replace hF := Fr.addLI (hF.exts hE) hL; clear hE hL; refine Back.mk ?_)) | (apply TL.ev; (case hd => rfl); (case h => (first | (apply Ev.isLoad; first | exact ev_loadFr hF rfl (by refine ⟨?_, ?_⟩; (focus (repeat (first | exact InV.head | apply InV.tail))); rfl) | exact ev_loadAFr hF rfl (by refine ⟨?_, ?_⟩; (focus (repeat (first | exact InV.head | apply InV.tail))); rfl)) | exact ev_fieldAddr rfl | exact ev_buildX rfl rfl | exact ev_notB rfl))) | (refine TL.storeAFr hF rfl rfl rfl rfl (by refine ⟨?_, ?_⟩; (focus (repeat (first | apply SetV.head | apply SetV.tail))); rfl) rfl ?_; clear hF; intro ws hF) | (refine TL.boxAFr hF (d := 2) (cs := [.bool xn, .slice A1 n1 c1]) rfl rfl ?_; clear hF; intro w2 b2 hF) | (refine TL.boxAFr hF (d := 3) (cs := [.bool yn, .slice A2 n2 c2]) rfl rfl ?_; clear hF; intro w3 b3 hF) | (refine TL.allocFr hF (d := 4) rfl rfl ?_; clear hF; intro w4 b4 hF)) | (refine T.is ?_; first | refine T.seq ?_ | refine T.region ?_ | refine T.ret ?_) | (refine G.is ?_; first | refine G.next ?_) | refine TL.nil ?_)
  exact G.retC1 rfl rfl (held_agg (hF.var (by repeat (first | exact InV.head | apply InV.tail))) rfl) ⟨z, rfl, Fr.li hF (by repeat (first | exact memH | apply memT)), hF.ext, hK⟩
end Go.Proofs.Ytdhmhjbmkimplaa

namespace Go.Proofs.Ytdhmhjbmkimplaa
open Go Go.Eng Go.Proofs Go.NatM Go.RowKit Go.Det

/-- the numbers of a square, row by row -/
def MB (n : Nat) (zl : List IV) (B : Nat → Nat → Int) (K : Nat) (H : Array Obj) : Prop := ∀ i j, i < n → j < n → LI H (B i j) (zl.getD (i * n + j) default) ∧ (zl.getD (i * n + j) default).m.n ≤ K
def dpMB (n : Nat) (zl : List IV) (B : Nat → Nat → Int) (K : Nat) : DP := ⟨MB n zl B K, fun _ => False, fun _ _ _ h => h.elim, fun _ _ hd h i j hi hj => ⟨(h i j hi hj).1.de hd, (h i j hi hj).2⟩⟩
section
variable {S : Nat → Prop} {w0 w w' : World} {L : List VB} {D : List DP}
theorem Fr.addMB (h : Fr w0 w L D S) {n : Nat} {zl : List IV} {B : Nat → Nat → Int} {K : Nat} (k : MB n zl B K w.heap) : Fr w0 w L (dpMB n zl B K :: D) S := h.add _ k fun _ _ h => h
theorem Fr.mb (h : Fr w0 w L D S) {n : Nat} {zl : List IV} {B : Nat → Nat → Int} {K : Nat} (hm : dpMB n zl B K ∈ D) : MB n zl B K w.heap := h.data _ hm
end
attribute [irreducible] dpMB

theorem place_inj {n i j a b : Nat} (hj : j < n) (hb : b < n) (h : i * n + j = a * n + b) : i = a ∧ j = b := by
  have h1 : (i * n + j) / n = (a * n + b) / n := by rw [h]
  rw [Nat.mul_comm i, Nat.mul_comm a, Nat.mul_add_div (by omega), Nat.mul_add_div (by omega), Nat.div_eq_of_lt hj, Nat.div_eq_of_lt hb] at h1
  have h2 : i = a := by omega
  subst h2
  exact ⟨rfl, by omega⟩
theorem MB.set {H : Array Obj} {n a b K : Nat} {zl : List IV} {B B' : Nat → Nat → Int} {u : IV} (h : MB n zl B K H) (hl : zl.length = n * n) (ha : a < n) (hb : b < n) (hu : LI H (B' a b) u) (hn : u.m.n ≤ K) (e : ∀ i j, i < n → j < n → ¬ (i = a ∧ j = b) → B' i j = B i j) : MB n (zl.set (a * n + b) u) B' K H := by
  intro i j hi hj
  by_cases hq : i * n + j = a * n + b
  · obtain ⟨rfl, rfl⟩ := place_inj hj hb hq
    have hlt := place_lt ha hb
    have e1 : (zl.set (i * n + j) u).getD (i * n + j) default = u := by simp [List.getD, show i * n + j < zl.length by omega]
    rw [e1]; exact ⟨hu, hn⟩
  · have e1 : (zl.set (a * n + b) u).getD (i * n + j) default = zl.getD (i * n + j) default := by simp only [List.getD]; rw [List.getElem?_set_ne (fun h => hq h.symm)]
    rw [e1, e i j hi hj (fun ⟨h1, h2⟩ => hq (by rw [h1, h2]))]
    exact h i j hi hj
theorem MB.congr {H : Array Obj} {n K : Nat} {zl : List IV} {B B' : Nat → Nat → Int} (h : MB n zl B K H) (e : ∀ i j, i < n → j < n → B' i j = B i j) : MB n zl B' K H := fun i j hi hj => by rw [e i j hi hj]; exact h i j hi hj
theorem MB.load {H : Array Obj} {n K : Nat} {zl : List IV} {B : Nat → Nat → Int} (h : MB n zl B K H) (hl : zl.length = n * n) {i j : Nat} (hi : i < n) (hj : j < n) : ∃ y : IV, zl[i * n + j]? = some y ∧ LI H (B i j) y ∧ y.m.n ≤ K := by
  have hlt := place_lt hi hj
  have hy : zl[i * n + j]? = some (zl.getD (i * n + j) default) := by simp [List.getD, show i * n + j < zl.length by omega]
  exact ⟨_, hy, (h i j hi hj).1, (h i j hi hj).2⟩
/-- the list of a block, as a slice -/
theorem Fr.smL {S : Nat → Prop} {w0 w : World} {L : List VB} {D : List DP} {b m : Nat} {l : List IV} (hF : Fr w0 w L D S) (hl : l.length = m) (hV : InV L b 40 (l.flatMap ivc)) : Sm 2 ivc w.heap w.heap.size (some ⟨b, 0, none⟩) m m l :=
  vr_sm (zs := []) (by omega) (fun _ _ => rfl) (by rw [List.append_nil]; exact hF.var hV) hl (Nat.le_refl _) (hF.var hV).lt
/-- how long a minor may be -/
theorem minor_len {n c K : Nat} {M : Nat → Nat → Int} (hn : n ≤ 64) (hc : c ≤ 64) (hM : ∀ i j, i < n → j < n → (M i j).natAbs < 18446744073709551616 ^ K) {N : Nat → Nat → Int} (hN : ∀ i j, i < c → j < c → ∃ a b, a < n ∧ b < n ∧ N i j = M a b) : (dig (det c N).natAbs).length ≤ 64 * (K + 1) := by
  refine dig_length_le (Nat.lt_of_le_of_lt (det_le (n := c) (M := N) (K := 18446744073709551616 ^ K) hc fun i j hi hj => ?_) ?_)
  · obtain ⟨a, b, ha, hb, e⟩ := hN i j hi hj
    rw [e]; exact Nat.le_of_lt (hM a b ha hb)
  · have h1 : (64 * 18446744073709551616 ^ K) ^ c ≤ (64 * 18446744073709551616 ^ K) ^ 64 := Nat.pow_le_pow_right (Nat.mul_pos (by omega) (Nat.pow_pos (by omega))) hc
    have h2 : (64 * 18446744073709551616 ^ K) ^ 64 < (18446744073709551616 ^ (K + 1)) ^ 64 := Nat.pow_lt_pow_left (by rw [Nat.pow_succ, Nat.mul_comm]; exact Nat.mul_lt_mul_of_pos_left (by omega) (Nat.pow_pos (by omega))) (by omega)
    rw [← Nat.pow_mul, Nat.mul_comm (K + 1)] at h2
    omega
theorem brd_ent {n c : Nat} {M : Nat → Nat → Int} {i j : Nat} (hc : c ≤ n) (hi : i < n) (hj : j < n) : ∀ a b, a < c + 1 → b < c + 1 → ∃ p q, p < n ∧ q < n ∧ brd c M i j a b = M p q := fun a b ha hb => ⟨_, _, by split <;> omega, by split <;> omega, rfl⟩
theorem li_len {H : Array Obj} {z : Int} {x : IV} (h : LI H z x) : x.m.n = (dig z.natAbs).length := by rw [← h.d, h.g.s.len]
/-- rows that change places, the first j columns done -/
def swpJ (B : Nat → Nat → Int) (p c j : Nat) : Nat → Nat → Int := fun a b => if b < j then swp B p c a b else B a b
/-- a step of the elimination under way -/
def elJ (B N : Nat → Nat → Int) (c i j : Nat) : Nat → Nat → Int := fun a b => if c < a ∧ c < b ∧ (a < i ∨ a = i ∧ b < j) then N a b else B a b
end Go.Proofs.Ytdhmhjbmkimplaa

namespace Go.Proofs.Ytdhmhjbmkimplaa
open Go Go.Eng Go.Proofs Go.NatM Go.RowKit Go.Det

def RetCrW (w : World) (n : Nat) (l : List IV) (K : Nat) (e : Ending) (w' : World) : Prop := ∃ (b : Nat) (l' : List IV), e = .returned (.slice (some ⟨b, 0, none⟩) n n) ∧ Vr w'.heap b 40 (l'.flatMap ivc) ∧ l'.length = n ∧ (∀ q, q < n → (GI w'.heap (l'.getD q default) ∧ (l'.getD q default).m.n ≤ K) ∧ SameI (l.getD q default) (l'.getD q default)) ∧ Ext w w' ∧ w.heap.size ≤ b
set_option maxRecDepth 100000 in
set_option maxHeartbeats 1000000 in
theorem copyRowW_ok (w : World) (A : Option Addr) (n k K : Nat) (l : List IV) (hs : Sm 2 ivc w.heap w.heap.size A n k l) (hn : n ≤ 1048576) (hg : ∀ y ∈ l, GI w.heap y ∧ y.m.n ≤ K) (hK : K ≤ 1099511627776) :
    Cl Try.prog 71 #[.slice A n k] w (RetCrW w n l K) := by
  have hlen := hs.len
  refine enter Try.func71 rfl rfl rfl ?_
  have hF := Fr.refl w
  repeat' (first | (refine TL.isOp ?_; first | (apply TL.ev; (case hd => rfl); (case h => (first | exact ev_simple rfl | exact ev_len rfl))) | (refine TL.makeFr hF ivc nought (d := 7) rfl rfl rfl (Nat.le_refl _) (by omega) rfl rfl rfl ?_; clear hF; intro w7 b7 hF)) | (refine T.is ?_; first | refine T.seq ?_ | refine T.region ?_ | refine T.block ?_) | (refine G.is ?_; first | refine G.next ?_) | refine TL.nil ?_)
  refine T.loop (α := Nat × List IV) (fun x => [(0, .slice A n k), (3, .slice (some ⟨b7, 0, none⟩) n n), (4, .int .i64 (x.1 : Int))])
    (fun x w' => x.1 ≤ n ∧ x.2.length = n ∧ (∀ q, q < x.1 → SameI (l.getD q default) (x.2.getD q default)) ∧ Fr w w' [⟨b7, 40, x.2.flatMap ivc⟩] [dpLG x.1 x.2 K])
    (fun x => n - x.1) (0, List.replicate n nought) (by repeat (first | exact Sub.nil _ | refine Sub.cons rfl ?_ | refine Sub.cons' rfl (int_congr (by omega)) ?_)) ⟨Nat.zero_le _, List.length_replicate .., fun q hq => absurd hq (Nat.not_lt_zero _), Fr.addLG hF (fun q hq => absurd hq (Nat.not_lt_zero _))⟩ ?_
  clear hF
  rintro ⟨i, zl⟩ w2 ⟨hi, hzl, hsm, hF⟩
  dsimp only at hi hzl hsm hF ⊢
  rcases Nat.lt_or_ge i n with hin | hin
  · have hy : l[i]? = some (l.getD i default) := by simp [List.getD, show i < l.length by omega]
    obtain ⟨gy, gn⟩ := hg _ (List.mem_of_getElem? hy)
    obtain ⟨y, ey⟩ : ∃ y, l.getD i default = y := ⟨_, rfl⟩
    rw [ey] at hy gy gn
    repeat' (first | (refine TL.isOp ?_; first | (refine TL.isCall ?_; refine TL.call rfl rfl ?_; first | (refine (copy_ok _ y (gy.ext hF.ext) (by omega)).mono ?_; rintro _ wl ⟨u, rfl, hSu, hGu, hE⟩; replace hF := Fr.addGI (hF.exts hE) hGu; clear hE hGu; refine Back.mk ?_)) | (refine TL.isBin ?_; refine TL.cmpG rfl rfl rfl rfl (fun hc => ?_) (fun hc => ?_) <;> (try (first | (exfalso; omega) | exact absurd rfl hc))) | (apply TL.ev; (case hd => rfl); (case h => (first | exact ev_simple rfl | (apply Ev.isBin; first | exact ev_arN rfl rfl rfl (by omega)) | (apply Ev.isLoad; first | exact ev_loadM rfl (hs.ext hF.ext) hy) | exact ev_len rfl | exact ev_indexM rfl rfl hin (hs.ext hF.ext).some | exact ev_indexM rfl rfl hin (.inr rfl)))) | (refine TL.storeAtFr hF (f := ivc) u rfl rfl rfl rfl (fun _ => rfl) (by rw [hzl]; exact hin) (ivc_noV zl) (by repeat (first | apply SetV.head | apply SetV.tail)) ?_; clear hF; intro ws hF)) | (refine T.is ?_; first | refine T.seq ?_ | refine T.region ?_ | refine T.block ?_ | refine T.cond_t rfl ?_ | refine T.skip ?_) | (refine G.is ?_; first | refine G.next ?_ | refine G.blockN ?_) | refine TL.nil ?_)
    have hk := (Fr.lg hF (i := i) (l := zl) (by repeat (first | exact memH | apply memT))).set (by omega) (Fr.gi hF (x := u) (by repeat (first | exact memH | apply memT))) (by rw [hSu.2.2]; exact gn)
    refine G.again (i + 1, zl.set i u) (by repeat (first | exact Sub.nil _ | refine Sub.cons rfl ?_ | refine Sub.cons' rfl (int_congr (by omega)) ?_)) ⟨by dsimp only; omega, by rw [List.length_set]; exact hzl, fun q hq => ?_, Fr.addLG (hF.weak (List.Sublist.refl _) allN) hk⟩ (by dsimp only; omega)
    by_cases e : q = i
    · subst e
      have e1 : (zl.set q u).getD q default = u := by simp [List.getD, show q < zl.length by omega]
      rw [e1, ey]; exact hSu
    · have e1 : (zl.set i u).getD q default = zl.getD q default := by simp [List.getD, List.getElem?_set_ne (fun h => e h.symm)]
      dsimp only at hq ⊢
      rw [e1]; exact hsm q (by omega)
  · obtain rfl : i = n := by omega
    repeat' (first | (refine TL.isOp ?_; first | (refine TL.isBin ?_; refine TL.cmpG rfl rfl rfl rfl (fun hc => ?_) (fun hc => ?_) <;> (try (first | (exfalso; omega) | exact absurd rfl hc))) | (apply TL.ev; (case hd => rfl); (case h => (first | exact ev_simple rfl | exact ev_len rfl)))) | (refine T.is ?_; first | refine T.seq ?_ | refine T.region ?_ | refine T.cond_f rfl ?_ | refine T.exit ?_ | refine T.ret ?_) | (refine G.is ?_; first | refine G.next ?_ | refine G.blockE ?_ | refine G.thenE ?_) | refine TL.nil ?_)
    have hb := (hF.lo (b := b7) (by repeat (first | exact InV.head | apply InV.tail))).resolve_right id
    exact G.ret1 rfl rfl ⟨b7, zl, rfl, hF.var .head, hzl, fun q hq => ⟨Fr.lg hF (i := i) (l := zl) (by repeat (first | exact memH | apply memT)) q hq, hsm q hq⟩, hF.ext, hb⟩
theorem mb_copy {H H' : Array Obj} {x : MV} {n K K' : Nat} {F : Nat → Nat → Int} {l' : List IV} (hx : LM H x n n F K) (hK : K ≤ K') (h : ∀ q, q < n * n → (GI H' (l'.getD q default) ∧ (l'.getD q default).m.n ≤ K) ∧ SameI (x.l.getD q default) (l'.getD q default)) : MB n l' F K' H' := fun i j hi hj => by
  obtain ⟨⟨h1, h2⟩, h3⟩ := h _ (place_lt hi hj)
  obtain ⟨h4, h5⟩ := hx.g i j hi hj
  exact ⟨⟨h1, by rw [h3.2.1]; exact h4.d, by rw [h3.1]; exact h4.e⟩, by omega⟩
theorem li_abs {H : Array Obj} {z : Int} {x : IV} {K : Nat} (h : LI H z x) (hn : x.m.n ≤ K) : z.natAbs < 18446744073709551616 ^ K := by
  have h1 := val_lt (U64_dig z.natAbs)
  rw [val_dig, ← li_len h] at h1
  exact Nat.lt_of_lt_of_le h1 (Nat.pow_le_pow_right (by omega) hn)
/-- what the walk knows in column c -/
structure El (n c K : Nat) (F M B : Nat → Nat → Int) (d : Int) (turned : Bool) : Prop where
  e : Elim n n c M B d
  s : Det.det n M = if turned = true then - Det.det n F else Det.det n F
  b : ∀ i j, i < n → j < n → (M i j).natAbs < 18446744073709551616 ^ K
theorem El.swap {n c K p : Nat} {F M B : Nat → Nat → Int} {d : Int} {t : Bool} (h : El n c K F M B d t) (hp : c < p) (hpn : p < n) : El n c K F (swp M p c) (swp B p c) d (!t) :=
  ⟨h.e.swap (by omega) hpn (Nat.le_refl _) (by omega), by rw [det_swap hpn (by omega) (by omega), h.s]; cases t <;> simp, fun i j hi hj => by
    unfold swp
    split
    · exact h.b _ j (by omega) hj
    · split
      · exact h.b _ j hpn hj
      · exact h.b i j hi hj⟩
theorem El.none {n c K : Nat} {F M B : Nat → Nat → Int} {d : Int} {t : Bool} (h : El n c K F M B d t) (hc : c < n) (hd : Det.det n F ≠ 0) (hz : ∀ q, c ≤ q → q < n → B q c = 0) : False := by
  have h1 := det_none h.e hc hz
  have h2 := h.s
  rw [h1] at h2
  split at h2 <;> omega
theorem El.done {n K : Nat} {F M B : Nat → Nat → Int} {d : Int} {t : Bool} (h : El n n K F M B d t) : Det.det n F = if t = true then -d else d := by
  have h1 := h.e.lead
  rw [h.s] at h1
  rw [h1]
  cases t <;> simp

theorem el_zero {n K : Nat} {F : Nat → Nat → Int} (hF : ∀ i j, i < n → j < n → (F i j).natAbs < 18446744073709551616 ^ K) : El n 0 K F F F 1 false := ⟨inv_zero n n F, rfl, hF⟩
theorem elJ_next {B N : Nat → Nat → Int} {c i n a b : Nat} (hb : b < n) : elJ B N c (i + 1) (c + 1) a b = elJ B N c i n a b := by
  unfold elJ
  by_cases h1 : c < a ∧ c < b
  · by_cases h2 : a < i + 1
    · rw [if_pos (by omega), if_pos (by omega)]
    · rw [if_neg (by omega), if_neg (by omega)]
  · rw [if_neg (fun h => h1 ⟨h.1, h.2.1⟩), if_neg (fun h => h1 ⟨h.1, h.2.1⟩)]
theorem elJ_set {B N : Nat → Nat → Int} {c i j a b : Nat} (h : ¬ (a = i ∧ b = j)) : elJ B N c i (j + 1) a b = elJ B N c i j a b := by
  unfold elJ
  by_cases h1 : c < a ∧ c < b ∧ (a < i ∨ a = i ∧ b < j)
  · rw [if_pos h1, if_pos (by omega)]
  · rw [if_neg h1, if_neg (by omega)]
/-- the state of the elimination -/
structure DS where
  c : Nat
  M : Nat → Nat → Int
  B : Nat → Nat → Int
  d : Int
  t : Bool
  y : IV
  zl : List IV
def detL (b5 ba b2 : Nat) (y : IV) (zl : List IV) : List VB := [⟨b5, 40, ivc y⟩, ⟨ba, 40, zl.flatMap ivc⟩, ⟨b2, 40, [.bool false, .slice none 0 0]⟩]
theorem sig_ne {z : Int} (h : z ≠ 0) : sig z ≠ 0 := by
  unfold sig
  split
  · decide
  · decide
theorem sig_eq {z : Int} (h : z = 0) : sig z = 0 := by subst h; rfl
set_option maxRecDepth 100000 in
set_option maxHeartbeats 16000000 in
theorem det_ok (w : World) (x : MV) (n K : Nat) (F : Nat → Nat → Int) (hx : LM w.heap x n n F K) (hK : K ≤ 4194304) (hdet : Det.det n F ≠ 0) : Cl Try.prog 54 #[.agg (mvc x).toArray] w (RetZ w (Det.det n F) (64 * (K + 1))) := by
  have hn64 := hx.sh.r64
  have hnn := mul64 hn64 hn64
  have hs := hx.s
  have hg := hx.gm.g
  have hMB := fun (H' : Array Obj) (l' : List IV) h => mb_copy (H' := H') (K' := 64 * (K + 1)) (l' := l') hx (by omega) h
  have hb0 : ∀ i j, i < n → j < n → (F i j).natAbs < 18446744073709551616 ^ K := fun i j hi hj => li_abs (hx.g i j hi hj).1 (hx.g i j hi hj).2
  have e1 := hx.sh.er
  have e2 := hx.sh.ec
  have e3 := hx.sh.n
  clear hx
  obtain ⟨xr, xc, A, N, k, l⟩ := x
  dsimp only at e1 e2 e3 hs hg hMB
  subst e1 e2 e3
  have hcp := fun w1 (hE : Ext w w1) => copyRowW_ok w1 A (n * n) k K l (hs.ext hE).size (by omega) (fun y hy => ⟨(hg y hy).1.ext hE, (hg y hy).2⟩) (by omega)
  refine enter Try.func54 rfl rfl rfl ?_
  have hF := Fr.refl w
  repeat' (first | (refine TL.isOp ?_; first | (refine TL.isCall ?_; refine TL.call rfl rfl ?_; first | (refine (hcp _ hF.ext).mono ?_; rintro _ wc ⟨ba, l0, rfl, hV, hl0, hcp2, hE, hba⟩; have hM0 := hMB _ _ hcp2; replace hF := Fr.addMB (Fr.newGe hF hba hV hE) hM0; clear hV hcp2 hE hba hM0; refine Back.mk ?_) | (refine (of1_ok _).mono ?_; rintro _ wo ⟨⟨ys, ⟨yA, yn, yc, yl⟩⟩, rfl, hLo, hEo, hKo⟩; replace hF := Fr.addLI (hF.exts hEo) hLo; clear hLo hEo; refine Back.mk ?_)) | (apply TL.ev; (case hd => rfl); (case h => (first | exact ev_simple rfl | (apply Ev.isLoad; first | exact ev_loadFr hF rfl (by refine ⟨?_, ?_⟩; (focus (repeat (first | exact InV.head | apply InV.tail))); rfl)) | exact ev_fieldAddr rfl))) | (refine TL.storeAFr hF rfl rfl rfl rfl (by refine ⟨?_, ?_⟩; (focus (repeat (first | apply SetV.head | apply SetV.tail))); rfl) rfl ?_; clear hF; intro ws hF) | (refine TL.boxAFr hF (d := 1) (cs := [.int .i64 (n : Int), .int .i64 (n : Int), .slice A (n * n) k]) rfl rfl ?_; clear hF; intro w1 b1 hF) | (refine TL.allocFr hF (d := 2) rfl rfl ?_; clear hF; intro w2 b2 hF) | (refine TL.allocFr hF (d := 5) rfl rfl ?_; clear hF; intro w5 b5 hF)) | (refine T.is ?_; first | refine T.seqL 6 rfl ?_ | refine T.region ?_ | refine T.block ?_) | (refine G.is ?_; first | refine G.next ?_) | refine TL.nil ?_)
  obtain ⟨KB, hKB⟩ : ∃ KB, KB = 64 * (K + 1) := ⟨_, rfl⟩
  rw [← hKB] at hF ⊢
  have hKB2 : KB ≤ 268435520 := by omega
  have hKB1 : 1 ≤ KB := by omega
  have hml : ∀ (c : Nat) (N : Nat → Nat → Int) (M : Nat → Nat → Int), c ≤ n → (∀ i j, i < n → j < n → (M i j).natAbs < 18446744073709551616 ^ K) → (∀ i j, i < c → j < c → ∃ a b, a < n ∧ b < n ∧ N i j = M a b) → (dig (Det.det c N).natAbs).length ≤ KB := fun c N M hc hM hN => by rw [hKB]; exact minor_len hn64 (by omega) hM hN
  clear hKB hs hg hMB hcp
  refine T.loop (α := DS) (fun x => [(2, .pointer (some ⟨b2, 0, none⟩)), (3, .int .i64 (n : Int)), (4, .slice (some ⟨ba, 0, none⟩) (n * n) (n * n)), (5, .pointer (some ⟨b5, 0, none⟩)), (6, .bool x.t), (7, .int .i64 (x.c : Int))])
    (fun x w' => x.c ≤ n ∧ x.zl.length = n * n ∧ El n x.c K F x.M x.B x.d x.t ∧ x.y.m.n ≤ KB ∧ Fr w w' (detL b5 ba b2 x.y x.zl) [dpLI x.d x.y, dpMB n x.zl x.B KB])
    (fun x => n - x.c) ⟨0, F, F, 1, false, ⟨ys, ⟨yA, yn, yc, yl⟩⟩, l0⟩ (by repeat (first | exact Sub.nil _ | refine Sub.cons rfl ?_ | refine Sub.cons' rfl (int_congr (by omega)) ?_)) ⟨Nat.zero_le _, hl0, el_zero hb0, by dsimp only at hKo ⊢; omega, hF.weak (List.Sublist.cons_cons _ (List.Sublist.cons_cons _ (List.Sublist.cons_cons _ (List.nil_sublist _)))) (allH (by repeat (first | exact memH | apply memT)) (allH (by repeat (first | exact memH | apply memT)) allN))⟩ ?_
  clear hF hKo hl0 ys yA yn yc yl l0
  rintro ⟨c, M, B, d, t, ⟨ys, ⟨yA, yn, yc, yl⟩⟩, zl⟩ w3 ⟨hcle, hzl, hE, hyn, hF⟩
  dsimp only at hcle hzl hE hyn hF ⊢
  unfold detL at hF
  rcases Nat.lt_or_ge c n with hcn | hcn
  · have hcc : c * n + c < n * n := place_lt hcn hcn
    have hcm : c * n ≤ 4096 := by omega
    repeat' (first | (refine TL.isOp ?_; first | (refine TL.isBin ?_; refine TL.cmpG rfl rfl rfl rfl (fun hc => ?_) (fun hc => ?_) <;> (try (first | (exfalso; omega) | exact absurd rfl hc))) | (apply TL.ev; (case hd => rfl); (case h => (first | exact ev_simple rfl)))) | (refine T.is ?_; first | refine T.seqL 9 rfl ?_ | refine T.region ?_ | refine T.block ?_ | refine T.cond_t rfl ?_ | refine T.skip ?_) | (refine G.is ?_; first | refine G.next ?_) | refine TL.nil ?_)
    refine T.cut (α := Nat) (fun p => [(2, .pointer (some ⟨b2, 0, none⟩)), (3, .int .i64 (n : Int)), (4, .slice (some ⟨ba, 0, none⟩) (n * n) (n * n)), (5, .pointer (some ⟨b5, 0, none⟩)), (6, .bool t), (7, .int .i64 (c : Int)), (8, .int .i64 (p : Int))])
      (fun p w' => c ≤ p ∧ p < n ∧ B p c ≠ 0 ∧ Fr w w' (detL b5 ba b2 ⟨ys, ⟨yA, yn, yc, yl⟩⟩ zl) [dpLI d ⟨ys, ⟨yA, yn, yc, yl⟩⟩, dpMB n zl B KB]) ?_ ?_
    · repeat' (first | (refine T.is ?_; first | refine T.block ?_))
      refine T.loop (α := Nat) (fun p => [(2, .pointer (some ⟨b2, 0, none⟩)), (3, .int .i64 (n : Int)), (4, .slice (some ⟨ba, 0, none⟩) (n * n) (n * n)), (5, .pointer (some ⟨b5, 0, none⟩)), (6, .bool t), (7, .int .i64 (c : Int)), (8, .int .i64 (p : Int))])
        (fun p w' => c ≤ p ∧ p ≤ n ∧ (∀ q, c ≤ q → q < p → B q c = 0) ∧ Fr w w' (detL b5 ba b2 ⟨ys, ⟨yA, yn, yc, yl⟩⟩ zl) [dpLI d ⟨ys, ⟨yA, yn, yc, yl⟩⟩, dpMB n zl B KB]) (fun p => n - p) c (by repeat (first | exact Sub.nil _ | refine Sub.cons rfl ?_ | refine Sub.cons' rfl (int_congr (by omega)) ?_)) ⟨Nat.le_refl _, hcle, fun q h1 h2 => by omega, hF⟩ ?_
      clear hF
      rintro p w4 ⟨hp, hpn, hz, hF⟩
      unfold detL at hF
      rcases Nat.lt_or_ge p n with hpn' | hpn'
      · have hpc : p * n + c < n * n := place_lt hpn' hcn
        have hpm : p * n ≤ 4096 := by omega
        obtain ⟨⟨vs, ⟨vA, vn, vc, vl⟩⟩, hv, hLv, hKv⟩ := (Fr.mb hF (n := n) (zl := zl) (by repeat (first | exact memH | apply memT))).load hzl hpn' hcn
        have hvz := hLv.val
        replace hF := Fr.addLI hF hLv
        dsimp only at hKv
        by_cases hB : B p c = 0
        · have hsg := sig_eq (hvz.trans hB)
          have hz' : ∀ q, c ≤ q → q < p + 1 → B q c = 0 := fun q h1 h2 => by
            rcases Nat.lt_or_ge q p with h3 | h3
            · exact hz q h1 h3
            · obtain rfl : q = p := by omega
              exact hB
          repeat' (first | (refine TL.isOp ?_; first | (refine TL.isG ?_; first | refine TL.grun rfl rfl rfl ?_) | (refine TL.isCall ?_; refine TL.call rfl rfl ?_; first | (refine (zsign_ok _ ⟨vs, ⟨vA, vn, vc, vl⟩⟩ (Fr.li hF (by repeat (first | exact memH | apply memT))).g (by dsimp only; omega)).mono ?_; rintro _ wg ⟨rfl, hEg⟩; rw [hsg]; replace hF := hF.exts hEg; clear hEg; refine Back.mk ?_)) | (refine TL.isBin ?_; refine TL.cmpG rfl rfl rfl rfl (fun hc => ?_) (fun hc => ?_) <;> (try (first | (exfalso; omega) | exact absurd rfl hc))) | (apply TL.ev; (case hd => rfl); (case h => (first | exact ev_simple rfl | (apply Ev.isBin; first | exact ev_arN rfl rfl rfl (by omega)) | (apply Ev.isLoad; first | exact ev_loadM rfl (Fr.smL hF hzl (by repeat (first | exact InV.head | apply InV.tail))) hv) | exact ev_indexM rfl rfl hpc (.inr rfl))))) | (refine T.is ?_; first | refine T.seq ?_ | refine T.region ?_ | refine T.block ?_ | refine T.cond_t rfl ?_ | refine T.skip ?_) | (refine G.is ?_; first | refine G.next ?_ | refine G.blockN ?_) | refine TL.nil ?_)
          exact G.again (p + 1) (by repeat (first | exact Sub.nil _ | refine Sub.cons rfl ?_ | refine Sub.cons' rfl (int_congr (by omega)) ?_)) ⟨by omega, by omega, hz', hF.weak (List.Sublist.refl _) (allH (by repeat (first | exact memH | apply memT)) (allH (by repeat (first | exact memH | apply memT)) allN))⟩ (by omega)
        · obtain ⟨q, hq⟩ : ∃ q, sig (ival ⟨vs, ⟨vA, vn, vc, vl⟩⟩) = q := ⟨_, rfl⟩
          have hq0 : q ≠ 0 := by rw [← hq, hvz]; exact sig_ne hB
          repeat' (first | (refine TL.isOp ?_; first | (refine TL.isG ?_; first | refine TL.grun rfl rfl rfl ?_) | (refine TL.isCall ?_; refine TL.call rfl rfl ?_; first | (refine (zsign_ok _ ⟨vs, ⟨vA, vn, vc, vl⟩⟩ (Fr.li hF (by repeat (first | exact memH | apply memT))).g (by dsimp only; omega)).mono ?_; rintro _ wg ⟨rfl, hEg⟩; rw [hq]; replace hF := hF.exts hEg; clear hEg; refine Back.mk ?_)) | (refine TL.isBin ?_; refine TL.cmpG rfl rfl rfl rfl (fun hc => ?_) (fun hc => ?_) <;> (try (first | (exfalso; omega) | exact absurd rfl hc))) | (apply TL.ev; (case hd => rfl); (case h => (first | exact ev_simple rfl | (apply Ev.isBin; first | exact ev_arN rfl rfl rfl (by omega)) | (apply Ev.isLoad; first | exact ev_loadM rfl (Fr.smL hF hzl (by repeat (first | exact InV.head | apply InV.tail))) hv) | exact ev_indexM rfl rfl hpc (.inr rfl))))) | (refine T.is ?_; first | refine T.seq ?_ | refine T.region ?_ | refine T.cond_f rfl ?_ | refine T.exit ?_) | (refine G.is ?_; first | refine G.next ?_ | refine G.blockE ?_ | refine G.thenE ?_) | refine TL.nil ?_)
          exact G.cut p (by repeat (first | exact Sub.nil _ | refine Sub.cons rfl ?_ | refine Sub.cons' rfl (int_congr (by omega)) ?_)) ⟨hp, hpn', hB, hF.weak (List.Sublist.refl _) (allH (by repeat (first | exact memH | apply memT)) (allH (by repeat (first | exact memH | apply memT)) allN))⟩
      · exact (hE.none hcn hdet fun q h1 h2 => hz q h1 (by omega)).elim
    · clear hF
      rintro p w4 ⟨hcp, hpn, hBp, hF⟩
      unfold detL at hF
      repeat' (first | (refine TL.isOp ?_; first | (refine TL.isBin ?_; refine TL.cmpG rfl rfl rfl rfl (fun hc => ?_) (fun hc => ?_) <;> (try (first | (exfalso; omega) | exact absurd rfl hc))) | (apply TL.ev; (case hd => rfl); (case h => (first | exact ev_simple rfl)))) | (refine T.is ?_; first | refine T.seqM 13 rfl ?_ | refine T.region ?_ | refine T.cond_f rfl ?_ | refine T.skip ?_) | (refine G.is ?_; first | refine G.next ?_) | refine TL.nil ?_)
      refine T.cut (α := DS) (fun x => [(2, .pointer (some ⟨b2, 0, none⟩)), (3, .int .i64 (n : Int)), (4, .slice (some ⟨ba, 0, none⟩) (n * n) (n * n)), (5, .pointer (some ⟨b5, 0, none⟩)), (6, .bool x.t), (7, .int .i64 (c : Int))])
        (fun x w' => x.zl.length = n * n ∧ El n c K F x.M x.B d x.t ∧ x.B c c ≠ 0 ∧ Fr w w' (detL b5 ba b2 ⟨ys, ⟨yA, yn, yc, yl⟩⟩ x.zl) [dpLI d ⟨ys, ⟨yA, yn, yc, yl⟩⟩, dpMB n x.zl x.B KB]) ?_ ?_
      · rcases Nat.lt_or_ge c p with hlt | hge
        · have hpm : p * n ≤ 4096 := by have := place_lt hpn hcn; omega
          repeat' (first | (refine TL.isOp ?_; first | (refine TL.isBin ?_; refine TL.cmpG rfl rfl rfl rfl (fun hc => ?_) (fun hc => ?_) <;> (try (first | (exfalso; omega) | exact absurd rfl hc))) | (apply TL.ev; (case hd => rfl); (case h => (first | exact ev_simple rfl | exact ev_notB rfl)))) | (refine T.is ?_; first | refine T.seq ?_ | refine T.region ?_ | refine T.block ?_ | refine T.cond_t rfl ?_) | (refine G.is ?_; first | refine G.next ?_) | refine TL.nil ?_)
          refine T.loop (α := Nat × List IV) (fun x => [(2, .pointer (some ⟨b2, 0, none⟩)), (3, .int .i64 (n : Int)), (4, .slice (some ⟨ba, 0, none⟩) (n * n) (n * n)), (5, .pointer (some ⟨b5, 0, none⟩)), (6, .bool !t), (7, .int .i64 (c : Int)), (8, .int .i64 (p : Int)), (9, .int .i64 (x.1 : Int))])
            (fun x w' => x.1 ≤ n ∧ x.2.length = n * n ∧ Fr w w' (detL b5 ba b2 ⟨ys, ⟨yA, yn, yc, yl⟩⟩ x.2) [dpLI d ⟨ys, ⟨yA, yn, yc, yl⟩⟩, dpMB n x.2 (swpJ B p c x.1) KB]) (fun x => n - x.1) (0, zl) (by repeat (first | exact Sub.nil _ | refine Sub.cons rfl ?_ | refine Sub.cons' rfl (int_congr (by omega)) ?_)) ⟨Nat.zero_le _, hzl, (Fr.addMB hF ((Fr.mb hF (n := n) (zl := zl) (B := B) (K := KB) (by repeat (first | exact memH | apply memT))).congr (B' := swpJ B p c 0) fun i j _ _ => by unfold swpJ; rw [if_neg (by omega)])).weak (List.Sublist.refl _) (allH (by repeat (first | exact memH | apply memT)) (allH (by repeat (first | exact memH | apply memT)) allN))⟩ ?_
          clear hF hzl
          rintro ⟨j, zj⟩ w5 ⟨hj, hzl, hF⟩
          dsimp only at hj hzl hF ⊢
          unfold detL at hF
          rcases Nat.lt_or_ge j n with hjn | hjn
          · have hpj : p * n + j < n * n := place_lt hpn hjn
            have hcj : c * n + j < n * n := place_lt hcn hjn
            obtain ⟨⟨us, ⟨uA, un, uc, ul⟩⟩, hu, hLu, hKu⟩ := (Fr.mb hF (n := n) (zl := zj) (by repeat (first | exact memH | apply memT))).load hzl hpn hjn
            obtain ⟨⟨vs, ⟨vA, vn, vc, vl⟩⟩, hv, hLv, hKv⟩ := (Fr.mb hF (n := n) (zl := zj) (by repeat (first | exact memH | apply memT))).load hzl hcn hjn
            have hne : p * n + j ≠ c * n + j := fun e => by have := place_inj hjn hjn e; omega
            have hmb := Fr.mb hF (n := n) (zl := zj) (by repeat (first | exact memH | apply memT))
            have hmb2 : MB n ((zj.set (p * n + j) ⟨vs, ⟨vA, vn, vc, vl⟩⟩).set (c * n + j) ⟨us, ⟨uA, un, uc, ul⟩⟩) (swpJ B p c (j + 1)) KB w5.heap := by
              refine (hmb.set (B' := fun a b => if a = p ∧ b = j then B c j else swpJ B p c j a b) hzl hpn hjn (by rw [if_pos ⟨rfl, rfl⟩]; unfold swpJ at hLv; rw [if_neg (by omega)] at hLv; exact hLv) hKv (fun a b _ _ h => if_neg h)).set (by rw [List.length_set]; exact hzl) hcn hjn ?_ hKu fun a b _ _ h => ?_
              · unfold swpJ swp
                rw [if_pos (by omega), if_neg (by omega), if_pos rfl]
                unfold swpJ at hLu
                rw [if_neg (by omega)] at hLu
                exact hLu
              · unfold swpJ swp
                by_cases h1 : a = p ∧ b = j
                · rw [if_pos h1, if_pos (by omega), if_pos h1.1, h1.2]
                · rw [if_neg h1]
                  by_cases h2 : b < j
                  · rw [if_pos h2, if_pos (by omega)]
                  · rw [if_neg h2]
                    by_cases h3 : b < j + 1
                    · rw [if_pos h3, if_neg (fun e => h1 ⟨e, by omega⟩), if_neg (fun e => h ⟨e, by omega⟩)]
                    · rw [if_neg h3]
            replace hF := Fr.addMB hF hmb2
            clear hmb hmb2 hLu hLv
            have hlc : ∀ u, c * n + j < (zj.set (p * n + j) u).length := fun u => by rw [List.length_set, hzl]; exact hcj
            have hvv : (zj)[c * n + j]? = some ⟨vs, ⟨vA, vn, vc, vl⟩⟩ := hv
            repeat' (first | (refine TL.isOp ?_; first | (refine TL.isBin ?_; refine TL.cmpG rfl rfl rfl rfl (fun hc => ?_) (fun hc => ?_) <;> (try (first | (exfalso; omega) | exact absurd rfl hc))) | (apply TL.ev; (case hd => rfl); (case h => (first | exact ev_simple rfl | (apply Ev.isBin; first | exact ev_arN rfl rfl rfl (by omega)) | (apply Ev.isLoad; first | exact ev_loadAFr hF rfl (by refine ⟨?_, ?_⟩; (focus (repeat (first | exact InV.head | apply InV.tail))); rfl) | exact ev_loadM rfl (Fr.smL hF hzl (by repeat (first | exact InV.head | apply InV.tail))) hu | exact ev_loadM rfl (Fr.smL hF hzl (by repeat (first | exact InV.head | apply InV.tail))) hv) | exact ev_indexM rfl rfl hpj (.inr rfl) | exact ev_indexM rfl rfl hcj (.inr rfl)))) | (refine TL.storeAFr hF rfl rfl rfl rfl (by refine ⟨?_, ?_⟩; (focus (repeat (first | apply SetV.head | apply SetV.tail))); rfl) rfl ?_; clear hF; intro ws hF) | (refine TL.allocFr hF (d := 10) rfl rfl ?_; clear hF; intro w10 b10 hF) | (refine TL.storeAtFr hF (i := p * n + j) (l := zj) (f := ivc) ⟨vs, ⟨vA, vn, vc, vl⟩⟩ rfl rfl rfl rfl (fun _ => rfl) (by rw [hzl]; exact hpj) (ivc_noV _) (by repeat (first | apply SetV.head | apply SetV.tail)) ?_; clear hF; intro ws hF) | (refine TL.storeAtFr hF (i := c * n + j) (l := zj.set (p * n + j) ⟨vs, ⟨vA, vn, vc, vl⟩⟩) (f := ivc) ⟨us, ⟨uA, un, uc, ul⟩⟩ rfl rfl rfl rfl (fun _ => rfl) (hlc _) (ivc_noV _) (by repeat (first | apply SetV.head | apply SetV.tail)) ?_; clear hF; intro ws hF)) | (refine T.is ?_; first | refine T.seq ?_ | refine T.region ?_ | refine T.block ?_ | refine T.cond_t rfl ?_ | refine T.skip ?_) | (refine G.is ?_; first | refine G.next ?_ | refine G.blockN ?_) | refine TL.nil ?_)
            exact G.again (j + 1, _) (by repeat (first | exact Sub.nil _ | refine Sub.cons rfl ?_ | refine Sub.cons' rfl (int_congr (by omega)) ?_)) ⟨by dsimp only; omega, by dsimp only; rw [List.length_set, List.length_set]; exact hzl, hF.weak (List.Sublist.cons _ (List.Sublist.refl _)) (allH (by repeat (first | exact memH | apply memT)) (allH (by repeat (first | exact memH | apply memT)) allN))⟩ (by dsimp only; omega)
          · obtain rfl : n = j := by omega
            repeat' (first | (refine TL.isOp ?_; first | (refine TL.isBin ?_; refine TL.cmpG rfl rfl rfl rfl (fun hc => ?_) (fun hc => ?_) <;> (try (first | (exfalso; omega) | exact absurd rfl hc))) | (apply TL.ev; (case hd => rfl); (case h => (first | exact ev_simple rfl)))) | (refine T.is ?_; first | refine T.seq ?_ | refine T.region ?_ | refine T.cond_f rfl ?_ | refine T.exit ?_) | (refine G.is ?_; first | refine G.next ?_ | refine G.blockE ?_ | refine G.thenE ?_) | refine TL.nil ?_)
            refine G.cut ⟨c, swp M p c, swp B p c, d, !t, ⟨ys, ⟨yA, yn, yc, yl⟩⟩, zj⟩ (by repeat (first | exact Sub.nil _ | refine Sub.cons rfl ?_ | refine Sub.cons' rfl (int_congr (by omega)) ?_)) ⟨hzl, hE.swap hlt hpn, ?_, (Fr.addMB hF ((Fr.mb hF (n := n) (zl := zj) (B := swpJ B p c n) (K := KB) (by repeat (first | exact memH | apply memT))).congr (B' := swp B p c) fun a b _ hb => by unfold swpJ; rw [if_pos hb])).weak (List.Sublist.refl _) (allH (by repeat (first | exact memH | apply memT)) (allH (by repeat (first | exact memH | apply memT)) allN))⟩
            dsimp only
            unfold swp
            rw [if_neg (by omega), if_pos rfl]
            exact hBp
        · obtain rfl : p = c := by omega
          repeat' (first | (refine TL.isOp ?_; first | (refine TL.isBin ?_; refine TL.cmpG rfl rfl rfl rfl (fun hc => ?_) (fun hc => ?_) <;> (try (first | (exfalso; omega) | exact absurd rfl hc))) | (apply TL.ev; (case hd => rfl); (case h => (first | exact ev_simple rfl)))) | (refine T.is ?_; first | refine T.seq ?_ | refine T.region ?_ | refine T.cond_f rfl ?_ | refine T.skip ?_) | (refine G.is ?_; first | refine G.next ?_) | refine TL.nil ?_)
          exact G.cut ⟨p, M, B, d, t, ⟨ys, ⟨yA, yn, yc, yl⟩⟩, zl⟩ (by repeat (first | exact Sub.nil _ | refine Sub.cons rfl ?_ | refine Sub.cons' rfl (int_congr (by omega)) ?_)) ⟨hzl, hE, hBp, hF⟩
      · clear hF hBp hzl hE
        clear B M t zl
        rintro ⟨_, M, B, _, t, _, zl⟩ w5 ⟨hzl, hE, hBc, hF⟩
        dsimp only at hzl hE hBc hF ⊢
        unfold detL at hF
        obtain ⟨N, hN⟩ : ∃ N : Nat → Nat → Int, N = fun a b => Det.det (c + 2) (brd (c + 1) M a b) := ⟨_, rfl⟩
        have hex : ∀ i j, c < i → i < n → c < j → j < n → B c c * B i j - B i c * B c j = d * N i j := fun i j h1 h2 h3 h4 => by
          rw [hE.e.exact hcn hcn hBc h1 h2 h3 h4, hN]
        have hlN : ∀ i j, c < i → i < n → c < j → j < n → (dig (N i j).natAbs).length ≤ KB := fun i j h1 h2 h3 h4 => by
          rw [hN]; exact hml _ _ M (by omega) hE.b (brd_ent (by omega) h2 h4)
        have hd0 : d ≠ 0 := hE.e.ne
        have hstep := fun (B' : Nat → Nat → Int) h => hE.e.step hcn hcn hBc (B' := B') h
        clear hN
        repeat' (first | (refine TL.isOp ?_; first | (apply TL.ev; (case hd => rfl); (case h => (first | exact ev_simple rfl | (apply Ev.isBin; first | exact ev_arN rfl rfl rfl (by omega)))))) | (refine T.is ?_; first | refine T.seq ?_ | refine T.region ?_ | refine T.block ?_) | (refine G.is ?_; first | refine G.next ?_) | refine TL.nil ?_)
        refine T.loop (α := Nat × List IV) (fun x => [(2, .pointer (some ⟨b2, 0, none⟩)), (3, .int .i64 (n : Int)), (4, .slice (some ⟨ba, 0, none⟩) (n * n) (n * n)), (5, .pointer (some ⟨b5, 0, none⟩)), (6, .bool t), (7, .int .i64 (c : Int)), (11, .int .i64 (x.1 : Int))])
          (fun x w' => c + 1 ≤ x.1 ∧ x.1 ≤ n ∧ x.2.length = n * n ∧ Fr w w' (detL b5 ba b2 ⟨ys, ⟨yA, yn, yc, yl⟩⟩ x.2) [dpLI d ⟨ys, ⟨yA, yn, yc, yl⟩⟩, dpMB n x.2 (elJ B N c x.1 (c + 1)) KB]) (fun x => n - x.1) (c + 1, zl) (by repeat (first | exact Sub.nil _ | refine Sub.cons rfl ?_ | refine Sub.cons' rfl (int_congr (by omega)) ?_)) ⟨Nat.le_refl _, hcn, hzl, (Fr.addMB hF ((Fr.mb hF (n := n) (zl := zl) (B := B) (K := KB) (by repeat (first | exact memH | apply memT))).congr (B' := elJ B N c (c + 1) (c + 1)) fun a b _ _ => by unfold elJ; rw [if_neg (by omega)])).weak (List.Sublist.refl _) (allH (by repeat (first | exact memH | apply memT)) (allH (by repeat (first | exact memH | apply memT)) allN))⟩ ?_
        clear hF hzl zl
        rintro ⟨i, zl⟩ w6 ⟨hi1, hi, hzl, hF⟩
        dsimp only at hi1 hi hzl hF ⊢
        unfold detL at hF
        rcases Nat.lt_or_ge i n with hin | hin
        · have him : i * n ≤ 4096 := by have := place_lt hin hcn; omega
          repeat' (first | (refine TL.isOp ?_; first | (refine TL.isBin ?_; refine TL.cmpG rfl rfl rfl rfl (fun hc => ?_) (fun hc => ?_) <;> (try (first | (exfalso; omega) | exact absurd rfl hc))) | (apply TL.ev; (case hd => rfl); (case h => (first | exact ev_simple rfl | (apply Ev.isBin; first | exact ev_arN rfl rfl rfl (by omega)))))) | (refine T.is ?_; first | refine T.seq ?_ | refine T.region ?_ | refine T.block ?_ | refine T.cond_t rfl ?_ | refine T.skip ?_) | (refine G.is ?_; first | refine G.next ?_) | refine TL.nil ?_)
          refine T.loop (α := Nat × List IV) (fun x => [(2, .pointer (some ⟨b2, 0, none⟩)), (3, .int .i64 (n : Int)), (4, .slice (some ⟨ba, 0, none⟩) (n * n) (n * n)), (5, .pointer (some ⟨b5, 0, none⟩)), (6, .bool t), (7, .int .i64 (c : Int)), (11, .int .i64 (i : Int)), (12, .int .i64 (x.1 : Int))])
            (fun x w' => c + 1 ≤ x.1 ∧ x.1 ≤ n ∧ x.2.length = n * n ∧ Fr w w' (detL b5 ba b2 ⟨ys, ⟨yA, yn, yc, yl⟩⟩ x.2) [dpLI d ⟨ys, ⟨yA, yn, yc, yl⟩⟩, dpMB n x.2 (elJ B N c i x.1) KB]) (fun x => n - x.1) (c + 1, zl) (by repeat (first | exact Sub.nil _ | refine Sub.cons rfl ?_ | refine Sub.cons' rfl (int_congr (by omega)) ?_)) ⟨Nat.le_refl _, hcn, hzl, hF⟩ ?_
          clear hF hzl zl
          rintro ⟨j, zl⟩ w7 ⟨hj1, hj, hzl, hF⟩
          dsimp only at hj1 hj hzl hF ⊢
          unfold detL at hF
          rcases Nat.lt_or_ge j n with hjn | hjn
          · have hij : i * n + j < n * n := place_lt hin hjn
            have hic : i * n + c < n * n := place_lt hin hcn
            have hcj : c * n + j < n * n := place_lt hcn hjn
            obtain ⟨⟨os, ⟨oA, on, oc, ol⟩⟩, ha, hLa, hKa⟩ := (Fr.mb hF (n := n) (zl := zl) (by repeat (first | exact memH | apply memT))).load hzl hcn hcn
            obtain ⟨⟨bs, ⟨bA, bn, bc, bll⟩⟩, hb, hLb, hKb⟩ := (Fr.mb hF (n := n) (zl := zl) (by repeat (first | exact memH | apply memT))).load hzl hin hjn
            obtain ⟨⟨es, ⟨eA, en, ec, el⟩⟩, he, hLe, hKe⟩ := (Fr.mb hF (n := n) (zl := zl) (by repeat (first | exact memH | apply memT))).load hzl hin hcn
            obtain ⟨⟨fs, ⟨fA, fn, fc, fl⟩⟩, hf, hLf, hKf⟩ := (Fr.mb hF (n := n) (zl := zl) (by repeat (first | exact memH | apply memT))).load hzl hcn hjn
            have q1 : elJ B N c i j c c = B c c := by unfold elJ; rw [if_neg (by omega)]
            have q2 : elJ B N c i j i j = B i j := by unfold elJ; rw [if_neg (by omega)]
            have q3 : elJ B N c i j i c = B i c := by unfold elJ; rw [if_neg (by omega)]
            have q4 : elJ B N c i j c j = B c j := by unfold elJ; rw [if_neg (by omega)]
            rw [q1] at hLa
            rw [q2] at hLb
            rw [q3] at hLe
            rw [q4] at hLf
            have va := hLa.val
            have vb := hLb.val
            have ve := hLe.val
            have vf := hLf.val
            have hdv := (Fr.li hF (z := d) (x := ⟨ys, ⟨yA, yn, yc, yl⟩⟩) (by repeat (first | exact memH | apply memT))).val
            replace hF := Fr.addLI (Fr.addLI (Fr.addLI (Fr.addLI hF hLa) hLb) hLe) hLf
            clear hLa hLb hLe hLf
            dsimp only at hKa hKb hKe hKf hyn
            have hx := hex i j (by omega) hin (by omega) hjn
            have hdv0 : ival ⟨ys, ⟨yA, yn, yc, yl⟩⟩ ≠ 0 := by rw [hdv]; exact hd0
            have hln := hlN i j (by omega) hin (by omega) hjn
            repeat' (first | (refine TL.isOp ?_; first | (refine TL.isCall ?_; refine TL.call rfl rfl ?_; first | (refine (zmul_ok _ ⟨os, ⟨oA, on, oc, ol⟩⟩ ⟨bs, ⟨bA, bn, bc, bll⟩⟩ (Fr.li hF (by repeat (first | exact memH | apply memT))).g (Fr.li hF (by repeat (first | exact memH | apply memT))).g (by dsimp only; omega) (by dsimp only; omega)).mono ?_; rintro _ wm ⟨⟨ms, ⟨mA, mn, mc, ml⟩⟩, rfl, hL, hE1, hK1⟩; rw [va, vb] at hL; dsimp only at hK1; replace hF := Fr.addLI (hF.exts hE1) hL; clear hE1 hL; refine Back.mk ?_) | (refine (zmul_ok _ ⟨es, ⟨eA, en, ec, el⟩⟩ ⟨fs, ⟨fA, fn, fc, fl⟩⟩ (Fr.li hF (by repeat (first | exact memH | apply memT))).g (Fr.li hF (by repeat (first | exact memH | apply memT))).g (by dsimp only; omega) (by dsimp only; omega)).mono ?_; rintro _ wm ⟨⟨ns, ⟨nA, nn, nc, nl⟩⟩, rfl, hL, hE1, hK2⟩; rw [ve, vf] at hL; dsimp only at hK2; replace hF := Fr.addLI (hF.exts hE1) hL; clear hE1 hL; refine Back.mk ?_) | (refine (zsub_ok _ ⟨ms, ⟨mA, mn, mc, ml⟩⟩ ⟨ns, ⟨nA, nn, nc, nl⟩⟩ (Fr.li hF (by repeat (first | exact memH | apply memT))).g (Fr.li hF (by repeat (first | exact memH | apply memT))).g (by dsimp only; omega) (by dsimp only; omega)).mono ?_; rintro _ wm ⟨⟨ss, ⟨sA, sn, sc, sl⟩⟩, rfl, hL, hE1, hK3⟩; rw [(Fr.li hF (x := ⟨ms, ⟨mA, mn, mc, ml⟩⟩) (by repeat (first | exact memH | apply memT))).val, (Fr.li hF (x := ⟨ns, ⟨nA, nn, nc, nl⟩⟩) (by repeat (first | exact memH | apply memT))).val, hx] at hL; dsimp only at hK3; replace hF := Fr.addLI (hF.exts hE1) hL; clear hE1 hL; refine Back.mk ?_) | (refine (zexact_ok _ ⟨ss, ⟨sA, sn, sc, sl⟩⟩ ⟨ys, ⟨yA, yn, yc, yl⟩⟩ (N i j) (Fr.li hF (by repeat (first | exact memH | apply memT))).g (Fr.li hF (by repeat (first | exact memH | apply memT))).g (by dsimp only; omega) (by dsimp only; omega) hdv0 (by rw [hdv, (Fr.li hF (x := ⟨ss, ⟨sA, sn, sc, sl⟩⟩) (by repeat (first | exact memH | apply memT))).val, Int.mul_comm])).mono ?_; rintro _ wm ⟨⟨us, ⟨uA, un, uc, ul⟩⟩, rfl, hL, hE1, hK4⟩; have hKu := li_len hL; replace hF := Fr.addLI (hF.exts hE1) hL; clear hE1 hL; refine Back.mk ?_)) | (refine TL.isBin ?_; refine TL.cmpG rfl rfl rfl rfl (fun hc => ?_) (fun hc => ?_) <;> (try (first | (exfalso; omega) | exact absurd rfl hc))) | (apply TL.ev; (case hd => rfl); (case h => (first | exact ev_simple rfl | (apply Ev.isBin; first | exact ev_arN rfl rfl rfl (by omega))))) | (refine TL.storeAFr hF rfl rfl rfl rfl (by refine ⟨?_, ?_⟩; (focus (repeat (first | apply SetV.head | apply SetV.tail))); rfl) rfl ?_; clear hF; intro ws hF) | (refine TL.allocFr hF (d := 13) rfl rfl ?_; clear hF; intro w13 b13 hF) | (refine TL.allocFr hF (d := 14) rfl rfl ?_; clear hF; intro w14 b14 hF) | (refine TL.storeAtFr hF (i := i * n + j) (l := zl) (f := ivc) ⟨us, ⟨uA, un, uc, ul⟩⟩ rfl rfl rfl rfl (fun _ => rfl) (by rw [hzl]; exact hij) (ivc_noV _) (by repeat (first | apply SetV.head | apply SetV.tail)) ?_; clear hF; intro ws hF)) | (refine TF.is ?_; first | refine TF.nil ?_ | refine TF.e rfl ?_ | refine TF.alt ?_ ?_ | (refine TF.pick rfl ?_; first | (apply TFo.ev; (case hd => rfl); (case h => (intro wh hF; first | exact ev_simple rfl | (apply Ev.isBin; first | exact ev_arN rfl rfl rfl (by omega)) | (apply Ev.isLoad; first | exact ev_loadAFr hF rfl (by refine ⟨?_, ?_⟩; (focus (repeat (first | exact InV.head | apply InV.tail))); rfl) | exact ev_loadM rfl (Fr.smL hF hzl (by repeat (first | exact InV.head | apply InV.tail))) ha | exact ev_loadM rfl (Fr.smL hF hzl (by repeat (first | exact InV.head | apply InV.tail))) hb | exact ev_loadM rfl (Fr.smL hF hzl (by repeat (first | exact InV.head | apply InV.tail))) he | exact ev_loadM rfl (Fr.smL hF hzl (by repeat (first | exact InV.head | apply InV.tail))) hf) | exact ev_indexM rfl rfl hcc (.inr rfl) | exact ev_indexM rfl rfl hij (.inr rfl) | exact ev_indexM rfl rfl hic (.inr rfl) | exact ev_indexM rfl rfl hcj (.inr rfl)))))) | (refine T.is ?_; first | refine T.seq ?_ | refine T.region ?_ | refine T.block ?_ | refine T.cond_t rfl ?_ | refine T.skip ?_ | (refine T.regionFr hF 27 18 (.s 0 (.s 1 (.s 2 (.s 3 (.s 4 (.s 5 (.s 6 (.s 7 (.s 8 (.s 9 (.s 10 (.s 11 (.s 12 (.s 13 (.s 14 (.s 15 (.alt (.e 16 (.e 17 (.e 18 .nil))) (.e 17 (.e 16 (.e 18 .nil)))))))))))))))))))) mixed (by kernel_rfl) ?_; clear hF; intro wr hF) | (refine T.regionFr hF 28 18 (.s 0 (.s 1 (.s 2 (.s 3 (.s 4 (.s 5 (.s 6 (.s 7 (.s 8 (.s 9 (.s 10 (.s 11 (.s 12 (.s 13 (.s 14 (.s 15 (.alt (.e 16 (.e 17 (.e 18 .nil))) (.e 17 (.e 16 (.e 18 .nil)))))))))))))))))))) mixed (by kernel_rfl) ?_; clear hF; intro wr hF) | (refine T.regionFo ba hF (by repeat (first | exact Out.head | apply Out.tail)) 29 16 (.s 0 (.s 1 (.s 2 (.s 3 (.s 4 (.s 5 (.s 6 (.s 7 (.s 9 (.e 8 (.e 10 (.s 11 (.s 12 (.s 13 (.s 14 (.e 15 .nil)))))))))))))))) mixed (by kernel_rfl) ?_; clear hF; intro wr hF)) | (refine G.is ?_; first | refine G.next ?_ | refine G.blockN ?_ | refine G.only ?_ | refine G.treeEnd rfl ?_ | refine G.tree rfl (hF.weak (by repeat (first | exact List.Sublist.refl _ | apply List.Sublist.cons_cons | apply List.Sublist.cons)) (by repeat (first | exact allR | apply allT))) ?_) | refine TL.nil ?_)
            all_goals
              have hmb := (Fr.mb hF (n := n) (zl := zl) (B := elJ B N c i j) (K := KB) (by repeat (first | exact memH | apply memT))).set (B' := elJ B N c i (j + 1)) hzl hin hjn (u := ⟨us, ⟨uA, un, uc, ul⟩⟩) (by unfold elJ; rw [if_pos (by omega)]; exact Fr.li hF (by repeat (first | exact memH | apply memT))) (by rw [hKu]; exact hln) (fun a b _ _ h => elJ_set h)
              exact G.again (j + 1, _) (by repeat (first | exact Sub.nil _ | refine Sub.cons rfl ?_ | refine Sub.cons' rfl (int_congr (by omega)) ?_)) ⟨by dsimp only; omega, by dsimp only; omega, by dsimp only; rw [List.length_set]; exact hzl, (Fr.addMB hF hmb).weak (List.Sublist.cons _ (List.Sublist.cons _ (List.Sublist.refl _))) (allH (by repeat (first | exact memH | apply memT)) (allH (by repeat (first | exact memH | apply memT)) allN))⟩ (by dsimp only; omega)
          · obtain rfl : n = j := by omega
            repeat' (first | (refine TL.isOp ?_; first | (refine TL.isBin ?_; refine TL.cmpG rfl rfl rfl rfl (fun hc => ?_) (fun hc => ?_) <;> (try (first | (exfalso; omega) | exact absurd rfl hc))) | (apply TL.ev; (case hd => rfl); (case h => (first | exact ev_simple rfl | (apply Ev.isBin; first | exact ev_arN rfl rfl rfl (by omega)))))) | (refine T.is ?_; first | refine T.seq ?_ | refine T.region ?_ | refine T.cond_f rfl ?_ | refine T.exit ?_) | (refine G.is ?_; first | refine G.next ?_ | refine G.blockN ?_ | refine G.blockE ?_ | refine G.thenE ?_) | refine TL.nil ?_)
            exact G.again (i + 1, zl) (by repeat (first | exact Sub.nil _ | refine Sub.cons rfl ?_ | refine Sub.cons' rfl (int_congr (by omega)) ?_)) ⟨by dsimp only; omega, by dsimp only; omega, hzl, (Fr.addMB hF ((Fr.mb hF (n := n) (zl := zl) (B := elJ B N c i n) (K := KB) (by repeat (first | exact memH | apply memT))).congr (B' := elJ B N c (i + 1) (c + 1)) fun a b _ hb => elJ_next hb)).weak (List.Sublist.refl _) (allH (by repeat (first | exact memH | apply memT)) (allH (by repeat (first | exact memH | apply memT)) allN))⟩ (by dsimp only; omega)
        · obtain rfl : n = i := by omega
          obtain ⟨⟨vs, ⟨vA, vn, vc, vl⟩⟩, hv, hLv, hKv⟩ := (Fr.mb hF (n := n) (zl := zl) (by repeat (first | exact memH | apply memT))).load hzl hcn hcn
          have q1 : elJ B N c n (c + 1) c c = B c c := by unfold elJ; rw [if_neg (by omega)]
          rw [q1] at hLv
          replace hF := Fr.addLI hF hLv
          clear hLv
          have hE2 : El n (c + 1) K F M (elJ B N c n (c + 1)) (B c c) t := ⟨hstep _ fun a b h1 h2 h3 h4 => by unfold elJ; rw [if_pos (by omega)]; exact hex a b h1 h2 h3 h4, hE.s, hE.b⟩
          repeat' (first | (refine TL.isOp ?_; first | (refine TL.isBin ?_; refine TL.cmpG rfl rfl rfl rfl (fun hc => ?_) (fun hc => ?_) <;> (try (first | (exfalso; omega) | exact absurd rfl hc))) | (apply TL.ev; (case hd => rfl); (case h => (first | exact ev_simple rfl | (apply Ev.isBin; first | exact ev_arN rfl rfl rfl (by omega)) | (apply Ev.isLoad; first | exact ev_loadM rfl (Fr.smL hF hzl (by repeat (first | exact InV.head | apply InV.tail))) hv) | exact ev_indexM rfl rfl hcc (.inr rfl)))) | (refine TL.storeAFr hF rfl rfl rfl rfl (by refine ⟨?_, ?_⟩; (focus (repeat (first | apply SetV.head | apply SetV.tail))); rfl) rfl ?_; clear hF; intro ws hF)) | (refine T.is ?_; first | refine T.seq ?_ | refine T.region ?_ | refine T.cond_f rfl ?_ | refine T.exit ?_) | (refine G.is ?_; first | refine G.next ?_ | refine G.blockN ?_ | refine G.blockE ?_ | refine G.thenE ?_) | refine TL.nil ?_)
          exact G.again ⟨c + 1, M, elJ B N c n (c + 1), B c c, t, ⟨vs, ⟨vA, vn, vc, vl⟩⟩, zl⟩ (by repeat (first | exact Sub.nil _ | refine Sub.cons rfl ?_ | refine Sub.cons' rfl (int_congr (by omega)) ?_)) ⟨by dsimp only; omega, hzl, hE2, hKv, hF.weak (List.Sublist.refl _) (allH (by repeat (first | exact memH | apply memT)) (allH (by repeat (first | exact memH | apply memT)) allN))⟩ (by dsimp only; omega)
  · obtain rfl : n = c := by omega
    have hfin := hE.done
    have hdv := (Fr.li hF (z := d) (x := ⟨ys, ⟨yA, yn, yc, yl⟩⟩) (by repeat (first | exact memH | apply memT))).val
    cases t
    · rw [if_neg (by decide)] at hfin
      repeat' (first | (refine TL.isOp ?_; first | (refine TL.isBin ?_; refine TL.cmpG rfl rfl rfl rfl (fun hc => ?_) (fun hc => ?_) <;> (try (first | (exfalso; omega) | exact absurd rfl hc))) | (apply TL.ev; (case hd => rfl); (case h => (first | exact ev_simple rfl | (apply Ev.isLoad; first | exact ev_loadAFr hF rfl (by refine ⟨?_, ?_⟩; (focus (repeat (first | exact InV.head | apply InV.tail))); rfl))))) | (refine TL.storeAFr hF rfl rfl rfl rfl (by refine ⟨?_, ?_⟩; (focus (repeat (first | apply SetV.head | apply SetV.tail))); rfl) rfl ?_; clear hF; intro ws hF)) | (refine T.is ?_; first | refine T.seq ?_ | refine T.region ?_ | refine T.cond_f rfl ?_ | refine T.exit ?_ | refine T.ret ?_ | refine T.skip ?_) | (refine G.is ?_; first | refine G.next ?_ | refine G.blockE ?_ | refine G.thenE ?_) | refine TL.nil ?_)
      rw [hfin]
      exact G.retC1 rfl rfl (held_agg (hF.var (b := b2) (by repeat (first | exact InV.head | apply InV.tail))) rfl) ⟨⟨ys, ⟨yA, yn, yc, yl⟩⟩, rfl, Fr.li hF (by repeat (first | exact memH | apply memT)), hF.ext, hyn⟩
    · rw [if_pos rfl] at hfin
      repeat' (first | (refine TL.isOp ?_; first | (refine TL.isCall ?_; refine TL.call rfl rfl ?_; first | (refine (zneg_ok _ ⟨ys, ⟨yA, yn, yc, yl⟩⟩ (Fr.li hF (by repeat (first | exact memH | apply memT))).g (by dsimp only; omega)).mono ?_; rintro _ wm ⟨⟨us, ⟨uA, un, uc, ul⟩⟩, rfl, hL, hE1, hK4⟩; rw [hdv] at hL; dsimp only at hK4; replace hF := Fr.addLI (hF.exts hE1) hL; clear hE1 hL; refine Back.mk ?_)) | (refine TL.isBin ?_; refine TL.cmpG rfl rfl rfl rfl (fun hc => ?_) (fun hc => ?_) <;> (try (first | (exfalso; omega) | exact absurd rfl hc))) | (apply TL.ev; (case hd => rfl); (case h => (first | exact ev_simple rfl | (apply Ev.isLoad; first | exact ev_loadAFr hF rfl (by refine ⟨?_, ?_⟩; (focus (repeat (first | exact InV.head | apply InV.tail))); rfl))))) | (refine TL.storeAFr hF rfl rfl rfl rfl (by refine ⟨?_, ?_⟩; (focus (repeat (first | apply SetV.head | apply SetV.tail))); rfl) rfl ?_; clear hF; intro ws hF)) | (refine T.is ?_; first | refine T.seq ?_ | refine T.region ?_ | refine T.cond_t rfl ?_ | refine T.cond_f rfl ?_ | refine T.exit ?_ | refine T.ret ?_) | (refine G.is ?_; first | refine G.next ?_ | refine G.blockE ?_ | refine G.thenE ?_ | refine G.thenR ?_) | refine TL.nil ?_)
      rw [hfin]
      exact G.retC1 rfl rfl (held_agg (hF.var (b := b2) (by repeat (first | exact InV.head | apply InV.tail))) rfl) ⟨⟨us, ⟨uA, un, uc, ul⟩⟩, rfl, Fr.li hF (by repeat (first | exact memH | apply memT)), hF.ext, by dsimp only; omega⟩
end Go.Proofs.Ytdhmhjbmkimplaa

namespace Go.Eng
open Go
class UPtr (P : Program) (t : TypeId) : Prop where
  out : ∃ e, P.underlying t = some (.pointer e)
section
variable {P : Program} {σ : Store} {H : Array Obj} {d : Option Tmp} {t : TypeId} {pos : String} {af : Array Edge} {gd : Option (Nat × Bool)}
end
section
variable {P : Program} {fn : Func} {R : Ending → World → Prop} {σ : Store} {w : World}
end
end Go.Eng

namespace Go.Proofs.Ytdhmhjbmkimplaa
open Go Go.Eng Go.Proofs Go.NatM Go.RowKit

instance : UPtr Try.prog 36 := ⟨_, Try.underlying36⟩
end Go.Proofs.Ytdhmhjbmkimplaa

namespace Go.Proofs.Ytdhmhjbmkimplaa
open Go Go.Eng Go.Proofs Go.NatM Go.RowKit

theorem new_bad (w : World) (x : MV) (hx : InR x) (hn : ¬ ∃ r c, Sound x r c) : Cl Try.prog 22 #[.agg (mvc x).toArray] w (fun e w' => e = .returned (.tuple #[.pointer none, .int .i64 1]) ∧ Ext w w') := by
  have hck := fun w => chk_bad w x hx hn
  clear hn hx
  obtain ⟨xr, xc, A1, n1, k1, l1⟩ := x
  refine enter Try.func22 rfl rfl rfl ?_
  have hF := Fr.refl w
  repeat' (first | (refine TL.isOp ?_; first | (refine TL.isCall ?_; refine TL.call rfl rfl ?_; first | (refine (hck _).mono ?_; rintro _ wy ⟨rfl, hE⟩; replace hF := hF.exts hE; clear hE; refine Back.mk ?_)) | (refine TL.isBin ?_; refine TL.cmpG rfl rfl rfl rfl (fun hc => ?_) (fun hc => ?_) <;> (try (first | (exfalso; omega) | exact absurd rfl hc))) | (apply TL.ev; (case hd => rfl); (case h => (first | exact ev_simple rfl | (apply Ev.isLoad; first | exact ev_loadAFr hF rfl (by refine ⟨?_, ?_⟩; (focus (repeat (first | exact InV.head | apply InV.tail))); rfl))))) | (refine TL.boxAFr hF (d := 1) (cs := [.int .i64 xr, .int .i64 xc, .slice A1 n1 k1]) rfl rfl ?_; clear hF; intro w1 b1 hF)) | (refine T.is ?_; first | refine T.seq ?_ | refine T.region ?_ | refine T.cond_t rfl ?_ | refine T.ret ?_) | (refine G.is ?_; first | refine G.next ?_ | refine G.thenR ?_) | refine TL.nil ?_)
  all_goals exact G.ret2 rfl rfl rfl ⟨rfl, hF.ext⟩
end Go.Proofs.Ytdhmhjbmkimplaa

namespace Go.Eng
open Go Go.Proofs Go.NatM Go.RowKit Go.Proofs.Ytdhmhjbmkimplaa
section
variable {P : Program} {σ : Go.Eng.Store} {H : Array Obj} {d : Option Tmp} {t : TypeId} {pos : String} {af : Array Edge} {gd : Option (Nat × Bool)}
theorem ev_convW {x : Operand} {ts td : TypeId} {ks kd k0 : IntKind} [hs : UInt P ts ks] [hd : UInt P td kd] {n m : Int} (h : Go.Eng.look σ x = some (.int k0 n)) (hn : kd.wrap n = m) :
    Ev P σ H ⟨d, .convert ts td x, t, pos, af, gd⟩ (.int kd m) := by
  subst hn
  unfold Ev
  intro ρ w hρ _
  simp [execOp, hρ x _ h, convert, run_underlying hs.out, run_underlying hd.out, Conv.intToInt]
theorem ev_negM {x : Operand} {ty : TypeId} (hx : Go.Eng.look σ x = some (.int .u64 18446744073709551615)) : Ev P σ H ⟨d, .unOp .neg ty x, t, pos, af, gd⟩ (.int .u64 1) := by
  unfold Ev
  intro ρ w hρ _
  have e1 : IntKind.u64.wrap (-18446744073709551615) = 1 := by decide
  simp [execOp, hρ x _ hx, Op.unary, Op.intArith, e1]
end
end Go.Eng
namespace Go.Proofs.Ytdhmhjbmkimplaa
open Go Go.Eng Go.Proofs Go.NatM Go.RowKit
theorem ofm1_ok (w : World) : Cl Try.prog 30 #[.int .i64 (-1)] w (RetZ w (-1) 1) := by
  refine enter Try.func30 rfl rfl rfl ?_
  repeat' (first | refine TL.ev (ev_simple rfl) rfl ?_ | (refine TL.call rfl rfl ?_; first | (refine (least_ok _ _ _ _ _ _ hSn (U64.one (by omega)) (by omega)).mono ?_; rintro _ wl ⟨Al, nl, cl, rfl, hOl, hEl, hKl⟩; refine Back.mk ?_; have hSl := hOl.sl (Nat.le_refl _); have hzl := hEl.size) | (refine (of_ok _ _ _ _ _ _ hSl).mono ?_; rintro _ wo ⟨rfl, hLo, hEo⟩; refine Back.mk ?_; have hzo := hEo.size)) | (refine TL.cmpG rfl rfl rfl rfl (fun hc => ?_) (fun hc => ?_) <;> try (exfalso; omega)) | (refine TL.ev (ev_convW (kd := .u64) (m := 18446744073709551615) rfl (by decide)) rfl ?_) | (refine TL.ev (ev_negM rfl) rfl ?_) | (refine TL.build1U rfl rfl (fun wn bn ebn hBn hEn hzn => ?_); have hSn := hBn.slN (n := 1) (c := 1) rfl (Nat.le_refl _) hBn.lt) | (refine TL.alloc rfl (fun wa ba eba hVa hEa hza => ?_); have hla := box_lo (w0 := w) (by repeat (first | exact Ext.refl _ | (refine Ext.trans ?_ (by assumption)) | (apply ext_upd; assumption; rotate_left; omega))) eba) | (refine TL.storeVX rfl rfl rfl rfl (by refine ⟨?_, ?_⟩; (focus (repeat (first | assumption | (apply Vr.ext; assumption) | (apply Vr.updX; assumption; rotate_left; omega)))); rfl) (fun ws hVs hUs hzs => ?_)) | refine T.seq ?_ | refine T.region ?_ | refine TL.nil ?_ | refine T.cond_t rfl ?_ | refine T.ret ?_ | refine G.next ?_ | refine G.thenR ?_)
  exact G.retC1 rfl rfl (held_agg hVs rfl) ⟨_, rfl, LI.updV hUs (by repeat (first | assumption | (apply Vr.ext; assumption) | (apply Vr.updX; assumption; rotate_left; omega))) rfl hLo, (by repeat (first | exact Ext.refl _ | (refine Ext.trans ?_ (by assumption)) | (apply ext_upd; assumption; rotate_left; omega))), hKl⟩
end Go.Proofs.Ytdhmhjbmkimplaa

namespace Go.Proofs.Ytdhmhjbmkimplaa
open Go Go.Eng Go.Proofs Go.NatM Go.RowKit

theorem of_sgn (w : World) (z : Int) (h : z = 1 ∨ z = -1) : Cl Try.prog 30 #[.int .i64 z] w (RetZ w z 1) := by
  rcases h with rfl | rfl
  · exact of1_ok w
  · exact ofm1_ok w
theorem cmpZ_self (z : Int) : cmpZ z z = 0 := by unfold cmpZ; rw [if_neg (by omega), if_neg (by omega)]
theorem sgn_ne {L : List SP} : sgnL L ≠ 0 := by rcases sgnL_one L with h | h <;> rw [h] <;> decide
set_option maxRecDepth 100000 in
set_option maxHeartbeats 8000000 in
theorem signs_t (w : World) (n : Nat) (hn : n ≤ 64) (A : Option Addr) (m k : Nat) (L : List SP) (hs : SS w.heap A m k L) (hm : m ≤ 1048576) (hK : wsum L ≤ 1048576) (hfit : ∀ s ∈ L, fits n s) :
    Cl Try.prog 27 #[.int .i64 (n : Int), .slice A m k] w (YesM w) := by
  have hfa : FitAll (n : Int) L := ⟨⟨by omega, by omega⟩, hfit⟩
  have hsg := fun w1 (hE : Ext w w1) => ssign_ok w1 (n : Int) A m k L (hs.ext hE) (by omega) hm
  have hmx := fun w1 (hE : Ext w w1) => smatrix_ok w1 n hn A m k L (hs.ext hE).s (hs.ext hE).g hm (by omega) hfit
  have hdet := det_all hfit
  have hne : Go.Det.det n (stepsF L unitF) ≠ 0 := by rw [hdet]; exact sgn_ne
  have hnn := mul64 hn hn
  have hone := sgnL_one L
  obtain ⟨d, hd⟩ : ∃ d, sgnL L = d := ⟨_, rfl⟩
  rw [hd] at hone hdet
  generalize stepsF L unitF = U at *
  refine enter Try.func27 rfl rfl rfl ?_
  have hF := Fr.refl w
  repeat' (first | (refine TL.isOp ?_; first | (refine TL.isG ?_; first | refine TL.grun rfl rfl rfl ?_) | (refine TL.isCall ?_; refine TL.call rfl rfl ?_; first | (refine (hsg _ hF.ext).mono ?_; rintro _ wc ⟨z, err, rfl, hS, hE⟩; obtain ⟨rfl, rfl⟩ : z = d ∧ err = 0 := hS.elim (fun h => ⟨h.2.1.trans hd, h.2.2⟩) (fun h => absurd hfa h.1); replace hF := hF.exts hE; clear hE hS; refine Back.mk ?_) | (refine (hmx _ hF.ext).mono ?_; rintro _ wu ⟨zu, rfl, hLu, hE, hf⟩; obtain ⟨uA, uk, ul, rfl⟩ := lm_mk hLu; rw [mvc_mk _ _ uA]; replace hF := Fr.addLM hF hE hLu hf; clear hE hf hLu; refine Back.mk ?_) | (refine (det_ok _ ⟨(n : Int), (n : Int), uA, n * n, uk, ul⟩ n (1 + wsum L) U (Fr.lm hF (by repeat (first | exact memH | apply memT))) (by omega) hne).mono ?_; rintro _ wv ⟨⟨vs, ⟨vA, vn, vc, vl⟩⟩, rfl, hL, hE, hKv⟩; dsimp only at hKv; have hvv := hL.val; replace hF := Fr.addLI (hF.exts hE) hL; clear hE hL; refine Back.mk ?_) | (refine (of_sgn _ z hone).mono ?_; rintro _ wv ⟨⟨os, ⟨oA, on, oc, ol⟩⟩, rfl, hL, hE, hKo⟩; dsimp only at hKo; have hov := hL.val; replace hF := Fr.addLI (hF.exts hE) hL; clear hE hL; refine Back.mk ?_) | (refine (zcmp_ok _ ⟨vs, ⟨vA, vn, vc, vl⟩⟩ ⟨os, ⟨oA, on, oc, ol⟩⟩ (Fr.li hF (by repeat (first | exact memH | apply memT))).g (Fr.li hF (by repeat (first | exact memH | apply memT))).g (by dsimp only; omega) (by dsimp only; omega)).mono ?_; rintro _ wv ⟨rfl, hE⟩; rw [hvv, hov, hdet, cmpZ_self]; replace hF := hF.exts hE; clear hE; refine Back.mk ?_)) | (refine TL.isBin ?_; refine TL.cmpG rfl rfl rfl rfl (fun hc => ?_) (fun hc => ?_) <;> (try (first | (exfalso; omega) | exact absurd rfl hc))) | (apply TL.ev; (case hd => rfl); (case h => (first | exact ev_simple rfl | (apply Ev.isBin; first | exact ev_arN rfl rfl rfl (by omega)) | (apply Ev.isLoad; first | exact ev_loadFr hF rfl (by refine ⟨?_, ?_⟩; (focus (repeat (first | exact InV.head | apply InV.tail))); rfl) | exact ev_loadAFr hF rfl (by refine ⟨?_, ?_⟩; (focus (repeat (first | exact InV.head | apply InV.tail))); rfl)) | exact ev_len rfl | exact ev_fieldAddr rfl))) | (refine TL.storeAFr hF rfl rfl rfl rfl (by refine ⟨?_, ?_⟩; (focus (repeat (first | apply SetV.head | apply SetV.tail))); rfl) rfl ?_; clear hF; intro ws hF) | (refine TL.allocFr hF (d := 7) rfl rfl ?_; clear hF; intro w7 b7 hF)) | (refine T.is ?_; first | refine T.seq ?_ | refine T.region ?_ | refine T.cond_f rfl ?_ | refine T.ret ?_ | refine T.skip ?_) | (refine G.is ?_; first | refine G.next ?_) | refine TL.nil ?_)
  exact G.ret1 rfl rfl ⟨rfl, hF.ext⟩
end Go.Proofs.Ytdhmhjbmkimplaa

namespace Go.Proofs.Ytdhmhjbmkimplaa
open Go Go.Eng Go.Proofs Go.NatM Go.RowKit

theorem mul_left (w : World) (u x : MV) (r c K Ku : Nat) (L : List SP) (fr : ∀ s ∈ L, fits r s) (hu : LM w.heap u r r (stepsF L unitF) Ku) (gx : GM w.heap x r c K) (hKu : Ku ≤ 8796093022000) (hK : K ≤ 8796093022000) :
    Cl Try.prog 12 #[.agg (mvc u).toArray, .agg (mvc x).toArray] w (RetME w r c (stepsF L (ent x c)) (Ku + K + r)) := by
  refine Cl.mono (mmul_ok w u x r r c Ku K hu.gm gx hKu hK) ?_
  rintro e w' ⟨z, rfl, h1, h2, h3⟩
  refine ⟨z, rfl, h1.congrF fun i j hi hj => ?_, h2, h3⟩
  rw [stepsF_prod (c := c) L (ent x c) fr i j hi hj]
  exact psum_congr fun q hq => by rw [hu.ent hi hq]
end Go.Proofs.Ytdhmhjbmkimplaa
