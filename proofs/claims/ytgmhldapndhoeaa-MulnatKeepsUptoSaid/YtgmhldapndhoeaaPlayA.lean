/- Layer 2, every call: asked, told. -/
import Derived.Test.YtgmhldapndhoeaaRef2B
import Derived.Test.YtgmhldapndhoeaaEngX
import Derived.Test.YtgmhldapndhoeaaStrs
set_option linter.unusedVariables false
set_option linter.unusedSimpArgs false
namespace Go.Proofs.Ytgmhldapndhoeaa
open Go Go.Eng Go.Proofs Go.NatM Go.RowKit

/-- one step's arguments -/
structure OpW where
  k : Int
  a : SA Nat
  b : SA Nat
  c : SA Nat
  z : Int
  LA : Option Addr
  Ln : Nat
  Lc : Nat
  L : List (SA Nat)
instance : Inhabited OpW := ⟨⟨0, default, default, default, 0, none, 0, 0, []⟩⟩
def opd (o : OpW) : List Value := [.int .i64 o.k, .slice o.a.A o.a.n o.a.c, .slice o.b.A o.b.n o.b.c, .slice o.c.A o.c.n o.c.c, .int .i64 o.z, .slice o.LA o.Ln o.Lc]
structure Goodw (H : Array Obj) (o : OpW) : Prop where
  sa : Sl u64v H H.size o.a.A o.a.n o.a.c o.a.l
  sb : Sl u64v H H.size o.b.A o.b.n o.b.c o.b.l
  sc : Sl u64v H H.size o.c.A o.c.n o.c.c o.c.l
  ua : U64 o.a.l
  ub : U64 o.b.l
  uc : U64 o.c.l
  na : o.a.n ≤ 1048576
  nb : o.b.n ≤ 1048576
  nc : o.c.n ≤ 1048576
  z : -9223372036854775808 ≤ o.z ∧ o.z < 9223372036854775808
  sL : Sl sav H H.size o.LA o.Ln o.Lc o.L
  gL : LS H H.size o.L
  nL : tot o.L + o.Ln ≤ 1048576
theorem Goodw.ext {w w' : World} {o : OpW} (hE : Ext w w') (h : Goodw w.heap o) : Goodw w'.heap o := ⟨(h.sa.ext hE).size, (h.sb.ext hE).size, (h.sc.ext hE).size, h.ua, h.ub, h.uc, h.na, h.nb, h.nc, h.z, (h.sL.ext hE).size, fun x hx => ⟨((h.gL x hx).1.ext hE).size, (h.gL x hx).2⟩, h.nL⟩
theorem Goodw.undrew {w : World} {o : OpW} {n : Nat} (h : Goodw w.heap o) : Goodw (w.drewN n).heap o := h
/-- what a step answers: by the numbers -/
def specW (k : Int) (x y c f : Nat) (z : Int) (p : Nat) : Nat × Int :=
  if k = 1 then (x * f, 0) else if k = 2 then (x * y, 0) else if k = 3 then (x * y + c, 0) else if k = 4 then (if z < 0 then (0, 3) else (x * y % 2 ^ z.toNat, 0))
  else if k = 5 then (x * x, 0) else if k = 6 then (if z < 0 then (0, 3) else if 256 < z then (0, 5) else (x ^ z.toNat, 0)) else if k = 7 then (p, 0) else (0, 0)
def specO (o : OpW) : Nat × Int := specW o.k (val o.a.l) (val o.b.l) (val o.c.l) (o.b.l.getD 0 0) o.z (prodV o.L)
theorem toNat_castW (z : Int) (h : ¬ z < 0) : ∃ j : Nat, z = (j : Int) ∧ z.toNat = j := ⟨z.toNat, by omega, rfl⟩
set_option maxRecDepth 100000 in
set_option maxHeartbeats 8000000 in
theorem asked_ok (w : World) (o : OpW) (g : Goodw w.heap o) : Cl Try.prog 34 #[.agg (opd o).toArray] w (RetNE w (dig (specO o).1) 274877906945 (specO o).2) := by
  have hf0 := g.ub.getD 0
  have hz := g.z
  have hna := g.na
  have hnb := g.nb
  have hnc := g.nc
  have hnL := g.nL
  by_cases k1 : o.k = 1
  · rw [show specO o = (val o.a.l * o.b.l.getD 0 0, 0) by unfold specO specW; rw [if_pos k1]]
    dsimp only
    refine enter Try.func34 rfl rfl rfl ?_
    repeat' (first | refine TL.ev (ev_simple rfl) rfl ?_ | refine TL.grun rfl rfl rfl ?_ | refine TL.gskip rfl rfl rfl rfl ?_ | refine TL.gskipU rfl rfl rfl ?_ | (refine TL.call rfl rfl ?_; first | (refine (first_ok _ _ _ _ _ _ g0.sb).cl.mono ?_; rintro _ _ ⟨rfl, q1, rfl⟩; refine Back.mk ?_) | (refine (word_ok _ _ _ _ _ _ hf0 (by exact g0.sa) g0.ua (by omega)).mono ?_; rintro _ w1 ⟨A1, n1, c1, rfl, hO1, hE1, hK1⟩; refine Back.mk ?_)) | refine TL.ev (ev_len rfl) rfl ?_ | (refine TL.cmpG rfl rfl rfl rfl (fun hc => ?_) (fun hc => ?_) <;> try (exfalso; omega)) | refine TL.ev (ev_arN rfl rfl rfl (by omega)) rfl ?_ | refine TL.ev (ev_arI rfl rfl rfl (by omega)) rfl ?_ | refine TL.ev (ev_neg rfl (by omega)) rfl ?_ | (refine TL.boxA (cs := opd o) rfl rfl (fun w0 b0 eb0 hV0 hE0 hz0 => ?_); have g0 := g.ext hE0) | (refine TL.ev (ev_fieldAddr rfl) rfl ?_) | (refine TL.ev (ev_loadV rfl hV0 rfl) rfl ?_) | refine T.seq ?_ | refine T.region ?_ | refine TL.nil ?_ | refine T.block ?_ | refine T.cond_t rfl ?_ | refine T.cond_f rfl ?_ | refine T.exit ?_ | refine T.ret ?_ | refine T.skip ?_ | refine G.next ?_ | refine G.blockN ?_ | refine G.blockE ?_ | refine G.blockE' rfl ?_ | refine G.blockR ?_ | refine G.thenE ?_ | refine G.thenR ?_ | refine T.regionQ mixed (by kernel_rfl) ?_ | refine TL.nilQ (fun _ => ?_) | refine G.only ?_ | refine G.mixed ?_ | refine TM.nil ?_ | refine TM.e rfl ?_)
    exact G.ret2 rfl rfl rfl (RetNE.mk (by exact hO1.mono hE0.size) ((hE0.drewN _).trans hE1) (by omega))
  by_cases k2 : o.k = 2
  · rw [show specO o = (val o.a.l * val o.b.l, 0) by unfold specO specW; rw [if_neg k1, if_pos k2]]
    dsimp only
    refine enter Try.func34 rfl rfl rfl ?_
    repeat' (first | refine TL.ev (ev_simple rfl) rfl ?_ | refine TL.grun rfl rfl rfl ?_ | refine TL.gskip rfl rfl rfl rfl ?_ | refine TL.gskipU rfl rfl rfl ?_ | (refine TL.call rfl rfl ?_; first | (refine (mul_ok _ _ _ _ _ _ _ _ _ _ _ g0.sa g0.sb g0.ua g0.ub (by omega)).mono ?_; rintro _ w1 ⟨A1, n1, c1, rfl, hO1, hE1, hK1⟩; refine Back.mk ?_)) | refine TL.ev (ev_len rfl) rfl ?_ | (refine TL.cmpG rfl rfl rfl rfl (fun hc => ?_) (fun hc => ?_) <;> try (exfalso; omega)) | refine TL.ev (ev_arN rfl rfl rfl (by omega)) rfl ?_ | refine TL.ev (ev_arI rfl rfl rfl (by omega)) rfl ?_ | refine TL.ev (ev_neg rfl (by omega)) rfl ?_ | (refine TL.boxA (cs := opd o) rfl rfl (fun w0 b0 eb0 hV0 hE0 hz0 => ?_); have g0 := g.ext hE0) | (refine TL.ev (ev_fieldAddr rfl) rfl ?_) | (refine TL.ev (ev_loadV rfl hV0 rfl) rfl ?_) | refine T.seq ?_ | refine T.region ?_ | refine TL.nil ?_ | refine T.block ?_ | refine T.cond_t rfl ?_ | refine T.cond_f rfl ?_ | refine T.exit ?_ | refine T.ret ?_ | refine T.skip ?_ | refine G.next ?_ | refine G.blockN ?_ | refine G.blockE ?_ | refine G.blockE' rfl ?_ | refine G.blockR ?_ | refine G.thenE ?_ | refine G.thenR ?_ | refine T.regionQ mixed (by kernel_rfl) ?_ | refine TL.nilQ (fun _ => ?_) | refine G.only ?_ | refine G.mixed ?_ | refine TM.nil ?_ | refine TM.e rfl ?_)
    exact G.ret2 rfl rfl rfl (RetNE.mk (by exact hO1.mono hE0.size) (hE0.trans hE1) (by omega))
  by_cases k3 : o.k = 3
  · rw [show specO o = (val o.a.l * val o.b.l + val o.c.l, 0) by unfold specO specW; rw [if_neg k1, if_neg k2, if_pos k3]]
    dsimp only
    refine enter Try.func34 rfl rfl rfl ?_
    repeat' (first | refine TL.ev (ev_simple rfl) rfl ?_ | refine TL.grun rfl rfl rfl ?_ | refine TL.gskip rfl rfl rfl rfl ?_ | refine TL.gskipU rfl rfl rfl ?_ | (refine TL.call rfl rfl ?_; first | (refine (mulAdd_ok _ _ _ _ _ _ _ _ _ _ _ _ _ _ _ _ g0.sa g0.sb g0.sc g0.ua g0.ub g0.uc (by omega) (by omega)).mono ?_; rintro _ w1 ⟨A1, n1, c1, rfl, hO1, hE1, hK1⟩; refine Back.mk ?_)) | refine TL.ev (ev_len rfl) rfl ?_ | (refine TL.cmpG rfl rfl rfl rfl (fun hc => ?_) (fun hc => ?_) <;> try (exfalso; omega)) | refine TL.ev (ev_arN rfl rfl rfl (by omega)) rfl ?_ | refine TL.ev (ev_arI rfl rfl rfl (by omega)) rfl ?_ | refine TL.ev (ev_neg rfl (by omega)) rfl ?_ | (refine TL.boxA (cs := opd o) rfl rfl (fun w0 b0 eb0 hV0 hE0 hz0 => ?_); have g0 := g.ext hE0) | (refine TL.ev (ev_fieldAddr rfl) rfl ?_) | (refine TL.ev (ev_loadV rfl hV0 rfl) rfl ?_) | refine T.seq ?_ | refine T.region ?_ | refine TL.nil ?_ | refine T.block ?_ | refine T.cond_t rfl ?_ | refine T.cond_f rfl ?_ | refine T.exit ?_ | refine T.ret ?_ | refine T.skip ?_ | refine G.next ?_ | refine G.blockN ?_ | refine G.blockE ?_ | refine G.blockE' rfl ?_ | refine G.blockR ?_ | refine G.thenE ?_ | refine G.thenR ?_ | refine T.regionQ mixed (by kernel_rfl) ?_ | refine TL.nilQ (fun _ => ?_) | refine G.only ?_ | refine G.mixed ?_ | refine TM.nil ?_ | refine TM.e rfl ?_)
    exact G.ret2 rfl rfl rfl (RetNE.mk (by exact hO1.mono hE0.size) (hE0.trans hE1) (by omega))
  by_cases k4 : o.k = 4
  · rw [show specO o = (if o.z < 0 then (0, 3) else (val o.a.l * val o.b.l % 2 ^ o.z.toNat, 0)) by unfold specO specW; rw [if_neg k1, if_neg k2, if_neg k3, if_pos k4]]
    split
    · dsimp only
      refine enter Try.func34 rfl rfl rfl ?_
      repeat' (first | refine TL.ev (ev_simple rfl) rfl ?_ | refine TL.grun rfl rfl rfl ?_ | refine TL.gskip rfl rfl rfl rfl ?_ | refine TL.gskipU rfl rfl rfl ?_ | (refine TL.call rfl rfl ?_; first | (refine (mulLow_neg _ _ _ _ (by omega)).mono ?_; rintro _ w1 ⟨A1, n1, c1, rfl, hO1, hE1, hK1⟩; refine Back.mk ?_)) | refine TL.ev (ev_len rfl) rfl ?_ | (refine TL.cmpG rfl rfl rfl rfl (fun hc => ?_) (fun hc => ?_) <;> try (exfalso; omega)) | refine TL.ev (ev_arN rfl rfl rfl (by omega)) rfl ?_ | refine TL.ev (ev_arI rfl rfl rfl (by omega)) rfl ?_ | refine TL.ev (ev_neg rfl (by omega)) rfl ?_ | (refine TL.boxA (cs := opd o) rfl rfl (fun w0 b0 eb0 hV0 hE0 hz0 => ?_); have g0 := g.ext hE0) | (refine TL.ev (ev_fieldAddr rfl) rfl ?_) | (refine TL.ev (ev_loadV rfl hV0 rfl) rfl ?_) | refine T.seq ?_ | refine T.region ?_ | refine TL.nil ?_ | refine T.block ?_ | refine T.cond_t rfl ?_ | refine T.cond_f rfl ?_ | refine T.exit ?_ | refine T.ret ?_ | refine T.skip ?_ | refine G.next ?_ | refine G.blockN ?_ | refine G.blockE ?_ | refine G.blockE' rfl ?_ | refine G.blockR ?_ | refine G.thenE ?_ | refine G.thenR ?_ | refine T.regionQ mixed (by kernel_rfl) ?_ | refine TL.nilQ (fun _ => ?_) | refine G.only ?_ | refine G.mixed ?_ | refine TM.nil ?_ | refine TM.e rfl ?_)
      exact G.ret2 rfl rfl rfl (RetNE.mk (by rw [dig_zero]; exact hO1.mono hE0.size) (hE0.trans hE1) (by omega))
    · rename_i hz0
      obtain ⟨j, ej, ej2⟩ := toNat_castW o.z hz0
      dsimp only
      rw [ej2]
      refine enter Try.func34 rfl rfl rfl ?_
      repeat' (first | refine TL.ev (ev_simple rfl) rfl ?_ | refine TL.grun rfl rfl rfl ?_ | refine TL.gskip rfl rfl rfl rfl ?_ | refine TL.gskipU rfl rfl rfl ?_ | (refine TL.call rfl rfl ?_; first | (refine (mulLow_ok _ _ _ _ _ _ _ _ _ _ _ (e0 := ⟨ej⟩) g0.sa g0.sb g0.ua g0.ub (by omega) (by omega)).mono ?_; rintro _ w1 ⟨A1, n1, c1, rfl, hO1, hE1, hK1⟩; refine Back.mk ?_)) | refine TL.ev (ev_len rfl) rfl ?_ | (refine TL.cmpG rfl rfl rfl rfl (fun hc => ?_) (fun hc => ?_) <;> try (exfalso; omega)) | refine TL.ev (ev_arN rfl rfl rfl (by omega)) rfl ?_ | refine TL.ev (ev_arI rfl rfl rfl (by omega)) rfl ?_ | refine TL.ev (ev_neg rfl (by omega)) rfl ?_ | (refine TL.boxA (cs := opd o) rfl rfl (fun w0 b0 eb0 hV0 hE0 hz0 => ?_); have g0 := g.ext hE0) | (refine TL.ev (ev_fieldAddr rfl) rfl ?_) | (refine TL.ev (ev_loadV rfl hV0 rfl) rfl ?_) | refine T.seq ?_ | refine T.region ?_ | refine TL.nil ?_ | refine T.block ?_ | refine T.cond_t rfl ?_ | refine T.cond_f rfl ?_ | refine T.exit ?_ | refine T.ret ?_ | refine T.skip ?_ | refine G.next ?_ | refine G.blockN ?_ | refine G.blockE ?_ | refine G.blockE' rfl ?_ | refine G.blockR ?_ | refine G.thenE ?_ | refine G.thenR ?_ | refine T.regionQ mixed (by kernel_rfl) ?_ | refine TL.nilQ (fun _ => ?_) | refine G.only ?_ | refine G.mixed ?_ | refine TM.nil ?_ | refine TM.e rfl ?_)
      exact G.ret2 rfl rfl rfl (RetNE.mk (by exact hO1.mono hE0.size) (hE0.trans hE1) (by omega))
  by_cases k5 : o.k = 5
  · rw [show specO o = (val o.a.l * val o.a.l, 0) by unfold specO specW; rw [if_neg k1, if_neg k2, if_neg k3, if_neg k4, if_pos k5]]
    dsimp only
    refine enter Try.func34 rfl rfl rfl ?_
    repeat' (first | refine TL.ev (ev_simple rfl) rfl ?_ | refine TL.grun rfl rfl rfl ?_ | refine TL.gskip rfl rfl rfl rfl ?_ | refine TL.gskipU rfl rfl rfl ?_ | (refine TL.call rfl rfl ?_; first | (refine (square_ok _ _ _ _ _ _ g0.sa g0.ua (by omega)).mono ?_; rintro _ w1 ⟨A1, n1, c1, rfl, hO1, hE1, hK1⟩; refine Back.mk ?_)) | refine TL.ev (ev_len rfl) rfl ?_ | (refine TL.cmpG rfl rfl rfl rfl (fun hc => ?_) (fun hc => ?_) <;> try (exfalso; omega)) | refine TL.ev (ev_arN rfl rfl rfl (by omega)) rfl ?_ | refine TL.ev (ev_arI rfl rfl rfl (by omega)) rfl ?_ | refine TL.ev (ev_neg rfl (by omega)) rfl ?_ | (refine TL.boxA (cs := opd o) rfl rfl (fun w0 b0 eb0 hV0 hE0 hz0 => ?_); have g0 := g.ext hE0) | (refine TL.ev (ev_fieldAddr rfl) rfl ?_) | (refine TL.ev (ev_loadV rfl hV0 rfl) rfl ?_) | refine T.seq ?_ | refine T.region ?_ | refine TL.nil ?_ | refine T.block ?_ | refine T.cond_t rfl ?_ | refine T.cond_f rfl ?_ | refine T.exit ?_ | refine T.ret ?_ | refine T.skip ?_ | refine G.next ?_ | refine G.blockN ?_ | refine G.blockE ?_ | refine G.blockE' rfl ?_ | refine G.blockR ?_ | refine G.thenE ?_ | refine G.thenR ?_ | refine T.regionQ mixed (by kernel_rfl) ?_ | refine TL.nilQ (fun _ => ?_) | refine G.only ?_ | refine G.mixed ?_ | refine TM.nil ?_ | refine TM.e rfl ?_)
    exact G.ret2 rfl rfl rfl (RetNE.mk (by exact hO1.mono hE0.size) (hE0.trans hE1) (by omega))
  by_cases k6 : o.k = 6
  · rw [show specO o = (if o.z < 0 then (0, 3) else if 256 < o.z then (0, 5) else (val o.a.l ^ o.z.toNat, 0)) by unfold specO specW; rw [if_neg k1, if_neg k2, if_neg k3, if_neg k4, if_neg k5, if_pos k6]]
    split
    · dsimp only
      refine enter Try.func34 rfl rfl rfl ?_
      repeat' (first | refine TL.ev (ev_simple rfl) rfl ?_ | refine TL.grun rfl rfl rfl ?_ | refine TL.gskip rfl rfl rfl rfl ?_ | refine TL.gskipU rfl rfl rfl ?_ | (refine TL.call rfl rfl ?_; first | (refine (pow_neg _ _ _ (by omega)).mono ?_; rintro _ w1 ⟨A1, n1, c1, rfl, hO1, hE1, hK1⟩; refine Back.mk ?_)) | refine TL.ev (ev_len rfl) rfl ?_ | (refine TL.cmpG rfl rfl rfl rfl (fun hc => ?_) (fun hc => ?_) <;> try (exfalso; omega)) | refine TL.ev (ev_arN rfl rfl rfl (by omega)) rfl ?_ | refine TL.ev (ev_arI rfl rfl rfl (by omega)) rfl ?_ | refine TL.ev (ev_neg rfl (by omega)) rfl ?_ | (refine TL.boxA (cs := opd o) rfl rfl (fun w0 b0 eb0 hV0 hE0 hz0 => ?_); have g0 := g.ext hE0) | (refine TL.ev (ev_fieldAddr rfl) rfl ?_) | (refine TL.ev (ev_loadV rfl hV0 rfl) rfl ?_) | refine T.seq ?_ | refine T.region ?_ | refine TL.nil ?_ | refine T.block ?_ | refine T.cond_t rfl ?_ | refine T.cond_f rfl ?_ | refine T.exit ?_ | refine T.ret ?_ | refine T.skip ?_ | refine G.next ?_ | refine G.blockN ?_ | refine G.blockE ?_ | refine G.blockE' rfl ?_ | refine G.blockR ?_ | refine G.thenE ?_ | refine G.thenR ?_ | refine T.regionQ mixed (by kernel_rfl) ?_ | refine TL.nilQ (fun _ => ?_) | refine G.only ?_ | refine G.mixed ?_ | refine TM.nil ?_ | refine TM.e rfl ?_)
      exact G.ret2 rfl rfl rfl (RetNE.mk (by rw [dig_zero]; exact hO1.mono hE0.size) (hE0.trans hE1) (by omega))
    · rename_i hz0
      split
      · dsimp only
        refine enter Try.func34 rfl rfl rfl ?_
        repeat' (first | refine TL.ev (ev_simple rfl) rfl ?_ | refine TL.grun rfl rfl rfl ?_ | refine TL.gskip rfl rfl rfl rfl ?_ | refine TL.gskipU rfl rfl rfl ?_ | (refine TL.call rfl rfl ?_; first | (refine (pow_big _ _ _ (by omega)).mono ?_; rintro _ w1 ⟨A1, n1, c1, rfl, hO1, hE1, hK1⟩; refine Back.mk ?_)) | refine TL.ev (ev_len rfl) rfl ?_ | (refine TL.cmpG rfl rfl rfl rfl (fun hc => ?_) (fun hc => ?_) <;> try (exfalso; omega)) | refine TL.ev (ev_arN rfl rfl rfl (by omega)) rfl ?_ | refine TL.ev (ev_arI rfl rfl rfl (by omega)) rfl ?_ | refine TL.ev (ev_neg rfl (by omega)) rfl ?_ | (refine TL.boxA (cs := opd o) rfl rfl (fun w0 b0 eb0 hV0 hE0 hz0 => ?_); have g0 := g.ext hE0) | (refine TL.ev (ev_fieldAddr rfl) rfl ?_) | (refine TL.ev (ev_loadV rfl hV0 rfl) rfl ?_) | refine T.seq ?_ | refine T.region ?_ | refine TL.nil ?_ | refine T.block ?_ | refine T.cond_t rfl ?_ | refine T.cond_f rfl ?_ | refine T.exit ?_ | refine T.ret ?_ | refine T.skip ?_ | refine G.next ?_ | refine G.blockN ?_ | refine G.blockE ?_ | refine G.blockE' rfl ?_ | refine G.blockR ?_ | refine G.thenE ?_ | refine G.thenR ?_ | refine T.regionQ mixed (by kernel_rfl) ?_ | refine TL.nilQ (fun _ => ?_) | refine G.only ?_ | refine G.mixed ?_ | refine TM.nil ?_ | refine TM.e rfl ?_)
        exact G.ret2 rfl rfl rfl (RetNE.mk (by rw [dig_zero]; exact hO1.mono hE0.size) (hE0.trans hE1) (by omega))
      · obtain ⟨j, ej, ej2⟩ := toNat_castW o.z hz0
        dsimp only
        rw [ej2]
        refine enter Try.func34 rfl rfl rfl ?_
        repeat' (first | refine TL.ev (ev_simple rfl) rfl ?_ | refine TL.grun rfl rfl rfl ?_ | refine TL.gskip rfl rfl rfl rfl ?_ | refine TL.gskipU rfl rfl rfl ?_ | (refine TL.call rfl rfl ?_; first | (refine (pow_okB _ _ _ _ _ _ (e0 := ⟨ej⟩) g0.sa g0.ua (by omega) (by omega)).mono ?_; rintro _ w1 ⟨A1, n1, c1, rfl, hO1, hE1, hK1⟩; refine Back.mk ?_)) | refine TL.ev (ev_len rfl) rfl ?_ | (refine TL.cmpG rfl rfl rfl rfl (fun hc => ?_) (fun hc => ?_) <;> try (exfalso; omega)) | refine TL.ev (ev_arN rfl rfl rfl (by omega)) rfl ?_ | refine TL.ev (ev_arI rfl rfl rfl (by omega)) rfl ?_ | refine TL.ev (ev_neg rfl (by omega)) rfl ?_ | (refine TL.boxA (cs := opd o) rfl rfl (fun w0 b0 eb0 hV0 hE0 hz0 => ?_); have g0 := g.ext hE0) | (refine TL.ev (ev_fieldAddr rfl) rfl ?_) | (refine TL.ev (ev_loadV rfl hV0 rfl) rfl ?_) | refine T.seq ?_ | refine T.region ?_ | refine TL.nil ?_ | refine T.block ?_ | refine T.cond_t rfl ?_ | refine T.cond_f rfl ?_ | refine T.exit ?_ | refine T.ret ?_ | refine T.skip ?_ | refine G.next ?_ | refine G.blockN ?_ | refine G.blockE ?_ | refine G.blockE' rfl ?_ | refine G.blockR ?_ | refine G.thenE ?_ | refine G.thenR ?_ | refine T.regionQ mixed (by kernel_rfl) ?_ | refine TL.nilQ (fun _ => ?_) | refine G.only ?_ | refine G.mixed ?_ | refine TM.nil ?_ | refine TM.e rfl ?_)
        exact G.ret2 rfl rfl rfl (RetNE.mk (by exact hO1.mono hE0.size) (hE0.trans hE1) (by omega))
  by_cases k7 : o.k = 7
  · rw [show specO o = (prodV o.L, 0) by unfold specO specW; rw [if_neg k1, if_neg k2, if_neg k3, if_neg k4, if_neg k5, if_neg k6, if_pos k7]]
    dsimp only
    refine enter Try.func34 rfl rfl rfl ?_
    repeat' (first | refine TL.ev (ev_simple rfl) rfl ?_ | refine TL.grun rfl rfl rfl ?_ | refine TL.gskip rfl rfl rfl rfl ?_ | refine TL.gskipU rfl rfl rfl ?_ | (refine TL.call rfl rfl ?_; first | (refine (lprod_ok _ _ _ _ _ _ _ g0.sL g0.gL (by omega) (by omega)).mono ?_; rintro _ w1 ⟨A1, n1, c1, rfl, hO1, hE1, hK1⟩; refine Back.mk ?_)) | refine TL.ev (ev_len rfl) rfl ?_ | (refine TL.cmpG rfl rfl rfl rfl (fun hc => ?_) (fun hc => ?_) <;> try (exfalso; omega)) | refine TL.ev (ev_arN rfl rfl rfl (by omega)) rfl ?_ | refine TL.ev (ev_arI rfl rfl rfl (by omega)) rfl ?_ | refine TL.ev (ev_neg rfl (by omega)) rfl ?_ | (refine TL.boxA (cs := opd o) rfl rfl (fun w0 b0 eb0 hV0 hE0 hz0 => ?_); have g0 := g.ext hE0) | (refine TL.ev (ev_fieldAddr rfl) rfl ?_) | (refine TL.ev (ev_loadV rfl hV0 rfl) rfl ?_) | refine T.seq ?_ | refine T.region ?_ | refine TL.nil ?_ | refine T.block ?_ | refine T.cond_t rfl ?_ | refine T.cond_f rfl ?_ | refine T.exit ?_ | refine T.ret ?_ | refine T.skip ?_ | refine G.next ?_ | refine G.blockN ?_ | refine G.blockE ?_ | refine G.blockE' rfl ?_ | refine G.blockR ?_ | refine G.thenE ?_ | refine G.thenR ?_ | refine T.regionQ mixed (by kernel_rfl) ?_ | refine TL.nilQ (fun _ => ?_) | refine G.only ?_ | refine G.mixed ?_ | refine TM.nil ?_ | refine TM.e rfl ?_)
    exact G.ret2 rfl rfl rfl (RetNE.mk (by exact hO1.mono hE0.size) (hE0.trans hE1) (by omega))
  rw [show specO o = (0, 0) by unfold specO specW; rw [if_neg k1, if_neg k2, if_neg k3, if_neg k4, if_neg k5, if_neg k6, if_neg k7]]
  dsimp only
  rw [dig_zero]
  refine enter Try.func34 rfl rfl rfl ?_
  repeat' (first | refine TL.ev (ev_simple rfl) rfl ?_ | refine TL.grun rfl rfl rfl ?_ | refine TL.gskip rfl rfl rfl rfl ?_ | refine TL.gskipU rfl rfl rfl ?_ | refine TL.ev (ev_len rfl) rfl ?_ | (refine TL.cmpG rfl rfl rfl rfl (fun hc => ?_) (fun hc => ?_) <;> try (exfalso; omega)) | refine TL.ev (ev_arN rfl rfl rfl (by omega)) rfl ?_ | refine TL.ev (ev_arI rfl rfl rfl (by omega)) rfl ?_ | refine TL.ev (ev_neg rfl (by omega)) rfl ?_ | (refine TL.boxA (cs := opd o) rfl rfl (fun w0 b0 eb0 hV0 hE0 hz0 => ?_); have g0 := g.ext hE0) | (refine TL.ev (ev_fieldAddr rfl) rfl ?_) | (refine TL.ev (ev_loadV rfl hV0 rfl) rfl ?_) | refine T.seq ?_ | refine T.region ?_ | refine TL.nil ?_ | refine T.block ?_ | refine T.cond_t rfl ?_ | refine T.cond_f rfl ?_ | refine T.exit ?_ | refine T.ret ?_ | refine T.skip ?_ | refine G.next ?_ | refine G.blockN ?_ | refine G.blockE ?_ | refine G.blockE' rfl ?_ | refine G.blockR ?_ | refine G.thenE ?_ | refine G.thenR ?_ | refine T.regionQ mixed (by kernel_rfl) ?_ | refine TL.nilQ (fun _ => ?_) | refine G.only ?_ | refine G.mixed ?_ | refine TM.nil ?_ | refine TM.e rfl ?_)
  exact G.ret2 rfl rfl rfl (RetNE.mk (Ow.nil _ _ _ _) hE0 (by omega))
set_option maxRecDepth 100000 in
set_option maxHeartbeats 8000000 in
theorem told_ok (w : World) (o : OpW) (g : Goodw w.heap o) : Cl Try.prog 33 #[.agg (opd o).toArray] w (RetNE w (dig (specO o).1) 274877906945 (specO o).2) := by
  have hf0 := g.ub.getD 0
  have hz := g.z
  have hna := g.na
  have hnb := g.nb
  have hnc := g.nc
  have hnL := g.nL
  by_cases k1 : o.k = 1
  · rw [show specO o = (val o.a.l * o.b.l.getD 0 0, 0) by unfold specO specW; rw [if_pos k1]]
    dsimp only
    refine enter Try.func33 rfl rfl rfl ?_
    repeat' (first | refine TL.ev (ev_simple rfl) rfl ?_ | refine TL.grun rfl rfl rfl ?_ | refine TL.gskip rfl rfl rfl rfl ?_ | refine TL.gskipU rfl rfl rfl ?_ | (refine TL.call rfl rfl ?_; first | (refine (first_ok _ _ _ _ _ _ g0.sb).cl.mono ?_; rintro _ _ ⟨rfl, q1, rfl⟩; refine Back.mk ?_) | (refine (xword_ok _ _ _ _ _ _ (by exact g0.sa) g0.ua (by omega) hf0).mono ?_; rintro _ w1 ⟨A1, n1, c1, rfl, hO1, hE1, hK1⟩; refine Back.mk ?_)) | refine TL.ev (ev_len rfl) rfl ?_ | (refine TL.cmpG rfl rfl rfl rfl (fun hc => ?_) (fun hc => ?_) <;> try (exfalso; omega)) | refine TL.ev (ev_arN rfl rfl rfl (by omega)) rfl ?_ | refine TL.ev (ev_arI rfl rfl rfl (by omega)) rfl ?_ | refine TL.ev (ev_neg rfl (by omega)) rfl ?_ | (refine TL.boxA (cs := opd o) rfl rfl (fun w0 b0 eb0 hV0 hE0 hz0 => ?_); have g0 := g.ext hE0) | (refine TL.ev (ev_fieldAddr rfl) rfl ?_) | (refine TL.ev (ev_loadV rfl hV0 rfl) rfl ?_) | refine T.seq ?_ | refine T.region ?_ | refine TL.nil ?_ | refine T.block ?_ | refine T.cond_t rfl ?_ | refine T.cond_f rfl ?_ | refine T.exit ?_ | refine T.ret ?_ | refine T.skip ?_ | refine G.next ?_ | refine G.blockN ?_ | refine G.blockE ?_ | refine G.blockE' rfl ?_ | refine G.blockR ?_ | refine G.thenE ?_ | refine G.thenR ?_ | refine T.regionQ mixed (by kernel_rfl) ?_ | refine TL.nilQ (fun _ => ?_) | refine G.only ?_ | refine G.mixed ?_ | refine TM.nil ?_ | refine TM.e rfl ?_)
    exact G.ret2 rfl rfl rfl (RetNE.mk (by exact hO1.mono hE0.size) ((hE0.drewN _).trans hE1) (by omega))
  by_cases k2 : o.k = 2
  · rw [show specO o = (val o.a.l * val o.b.l, 0) by unfold specO specW; rw [if_neg k1, if_pos k2]]
    dsimp only
    refine enter Try.func33 rfl rfl rfl ?_
    repeat' (first | refine TL.ev (ev_simple rfl) rfl ?_ | refine TL.grun rfl rfl rfl ?_ | refine TL.gskip rfl rfl rfl rfl ?_ | refine TL.gskipU rfl rfl rfl ?_ | (refine TL.call rfl rfl ?_; first | (refine (xmul_ok _ _ _ _ _ _ _ _ _ _ _ g0.sa g0.sb g0.ua g0.ub (by omega) (by omega)).mono ?_; rintro _ w1 ⟨A1, n1, c1, rfl, hO1, hE1, hK1⟩; refine Back.mk ?_)) | refine TL.ev (ev_len rfl) rfl ?_ | (refine TL.cmpG rfl rfl rfl rfl (fun hc => ?_) (fun hc => ?_) <;> try (exfalso; omega)) | refine TL.ev (ev_arN rfl rfl rfl (by omega)) rfl ?_ | refine TL.ev (ev_arI rfl rfl rfl (by omega)) rfl ?_ | refine TL.ev (ev_neg rfl (by omega)) rfl ?_ | (refine TL.boxA (cs := opd o) rfl rfl (fun w0 b0 eb0 hV0 hE0 hz0 => ?_); have g0 := g.ext hE0) | (refine TL.ev (ev_fieldAddr rfl) rfl ?_) | (refine TL.ev (ev_loadV rfl hV0 rfl) rfl ?_) | refine T.seq ?_ | refine T.region ?_ | refine TL.nil ?_ | refine T.block ?_ | refine T.cond_t rfl ?_ | refine T.cond_f rfl ?_ | refine T.exit ?_ | refine T.ret ?_ | refine T.skip ?_ | refine G.next ?_ | refine G.blockN ?_ | refine G.blockE ?_ | refine G.blockE' rfl ?_ | refine G.blockR ?_ | refine G.thenE ?_ | refine G.thenR ?_ | refine T.regionQ mixed (by kernel_rfl) ?_ | refine TL.nilQ (fun _ => ?_) | refine G.only ?_ | refine G.mixed ?_ | refine TM.nil ?_ | refine TM.e rfl ?_)
    exact G.ret2 rfl rfl rfl (RetNE.mk (by exact hO1.mono hE0.size) (hE0.trans hE1) (by omega))
  by_cases k3 : o.k = 3
  · rw [show specO o = (val o.a.l * val o.b.l + val o.c.l, 0) by unfold specO specW; rw [if_neg k1, if_neg k2, if_pos k3]]
    dsimp only
    refine enter Try.func33 rfl rfl rfl ?_
    repeat' (first | refine TL.ev (ev_simple rfl) rfl ?_ | refine TL.grun rfl rfl rfl ?_ | refine TL.gskip rfl rfl rfl rfl ?_ | refine TL.gskipU rfl rfl rfl ?_ | (refine TL.call rfl rfl ?_; first | (refine (xmulAdd_ok _ _ _ _ _ _ _ _ _ _ _ _ _ _ _ _ g0.sa g0.sb g0.sc g0.ua g0.ub g0.uc (by omega) (by omega) (by omega)).mono ?_; rintro _ w1 ⟨A1, n1, c1, rfl, hO1, hE1, hK1⟩; refine Back.mk ?_)) | refine TL.ev (ev_len rfl) rfl ?_ | (refine TL.cmpG rfl rfl rfl rfl (fun hc => ?_) (fun hc => ?_) <;> try (exfalso; omega)) | refine TL.ev (ev_arN rfl rfl rfl (by omega)) rfl ?_ | refine TL.ev (ev_arI rfl rfl rfl (by omega)) rfl ?_ | refine TL.ev (ev_neg rfl (by omega)) rfl ?_ | (refine TL.boxA (cs := opd o) rfl rfl (fun w0 b0 eb0 hV0 hE0 hz0 => ?_); have g0 := g.ext hE0) | (refine TL.ev (ev_fieldAddr rfl) rfl ?_) | (refine TL.ev (ev_loadV rfl hV0 rfl) rfl ?_) | refine T.seq ?_ | refine T.region ?_ | refine TL.nil ?_ | refine T.block ?_ | refine T.cond_t rfl ?_ | refine T.cond_f rfl ?_ | refine T.exit ?_ | refine T.ret ?_ | refine T.skip ?_ | refine G.next ?_ | refine G.blockN ?_ | refine G.blockE ?_ | refine G.blockE' rfl ?_ | refine G.blockR ?_ | refine G.thenE ?_ | refine G.thenR ?_ | refine T.regionQ mixed (by kernel_rfl) ?_ | refine TL.nilQ (fun _ => ?_) | refine G.only ?_ | refine G.mixed ?_ | refine TM.nil ?_ | refine TM.e rfl ?_)
    exact G.ret2 rfl rfl rfl (RetNE.mk (by exact hO1.mono hE0.size) (hE0.trans hE1) (by omega))
  by_cases k4 : o.k = 4
  · rw [show specO o = (if o.z < 0 then (0, 3) else (val o.a.l * val o.b.l % 2 ^ o.z.toNat, 0)) by unfold specO specW; rw [if_neg k1, if_neg k2, if_neg k3, if_pos k4]]
    split
    · dsimp only
      refine enter Try.func33 rfl rfl rfl ?_
      repeat' (first | refine TL.ev (ev_simple rfl) rfl ?_ | refine TL.grun rfl rfl rfl ?_ | refine TL.gskip rfl rfl rfl rfl ?_ | refine TL.gskipU rfl rfl rfl ?_ | (refine TL.call rfl rfl ?_; first | (refine (xmulLow_neg _ _ _ _ (by omega)).mono ?_; rintro _ w1 ⟨A1, n1, c1, rfl, hO1, hE1, hK1⟩; refine Back.mk ?_)) | refine TL.ev (ev_len rfl) rfl ?_ | (refine TL.cmpG rfl rfl rfl rfl (fun hc => ?_) (fun hc => ?_) <;> try (exfalso; omega)) | refine TL.ev (ev_arN rfl rfl rfl (by omega)) rfl ?_ | refine TL.ev (ev_arI rfl rfl rfl (by omega)) rfl ?_ | refine TL.ev (ev_neg rfl (by omega)) rfl ?_ | (refine TL.boxA (cs := opd o) rfl rfl (fun w0 b0 eb0 hV0 hE0 hz0 => ?_); have g0 := g.ext hE0) | (refine TL.ev (ev_fieldAddr rfl) rfl ?_) | (refine TL.ev (ev_loadV rfl hV0 rfl) rfl ?_) | refine T.seq ?_ | refine T.region ?_ | refine TL.nil ?_ | refine T.block ?_ | refine T.cond_t rfl ?_ | refine T.cond_f rfl ?_ | refine T.exit ?_ | refine T.ret ?_ | refine T.skip ?_ | refine G.next ?_ | refine G.blockN ?_ | refine G.blockE ?_ | refine G.blockE' rfl ?_ | refine G.blockR ?_ | refine G.thenE ?_ | refine G.thenR ?_ | refine T.regionQ mixed (by kernel_rfl) ?_ | refine TL.nilQ (fun _ => ?_) | refine G.only ?_ | refine G.mixed ?_ | refine TM.nil ?_ | refine TM.e rfl ?_)
      exact G.ret2 rfl rfl rfl (RetNE.mk (by rw [dig_zero]; exact hO1.mono hE0.size) (hE0.trans hE1) (by omega))
    · rename_i hz0
      obtain ⟨j, ej, ej2⟩ := toNat_castW o.z hz0
      dsimp only
      rw [ej2]
      refine enter Try.func33 rfl rfl rfl ?_
      repeat' (first | refine TL.ev (ev_simple rfl) rfl ?_ | refine TL.grun rfl rfl rfl ?_ | refine TL.gskip rfl rfl rfl rfl ?_ | refine TL.gskipU rfl rfl rfl ?_ | (refine TL.call rfl rfl ?_; first | (refine (xmulLow_ok _ _ _ _ _ _ _ _ _ _ _ (e0 := ⟨ej⟩) g0.sa g0.sb g0.ua g0.ub (by omega) (by omega) (by omega)).mono ?_; rintro _ w1 ⟨A1, n1, c1, rfl, hO1, hE1, hK1⟩; refine Back.mk ?_)) | refine TL.ev (ev_len rfl) rfl ?_ | (refine TL.cmpG rfl rfl rfl rfl (fun hc => ?_) (fun hc => ?_) <;> try (exfalso; omega)) | refine TL.ev (ev_arN rfl rfl rfl (by omega)) rfl ?_ | refine TL.ev (ev_arI rfl rfl rfl (by omega)) rfl ?_ | refine TL.ev (ev_neg rfl (by omega)) rfl ?_ | (refine TL.boxA (cs := opd o) rfl rfl (fun w0 b0 eb0 hV0 hE0 hz0 => ?_); have g0 := g.ext hE0) | (refine TL.ev (ev_fieldAddr rfl) rfl ?_) | (refine TL.ev (ev_loadV rfl hV0 rfl) rfl ?_) | refine T.seq ?_ | refine T.region ?_ | refine TL.nil ?_ | refine T.block ?_ | refine T.cond_t rfl ?_ | refine T.cond_f rfl ?_ | refine T.exit ?_ | refine T.ret ?_ | refine T.skip ?_ | refine G.next ?_ | refine G.blockN ?_ | refine G.blockE ?_ | refine G.blockE' rfl ?_ | refine G.blockR ?_ | refine G.thenE ?_ | refine G.thenR ?_ | refine T.regionQ mixed (by kernel_rfl) ?_ | refine TL.nilQ (fun _ => ?_) | refine G.only ?_ | refine G.mixed ?_ | refine TM.nil ?_ | refine TM.e rfl ?_)
      exact G.ret2 rfl rfl rfl (RetNE.mk (by exact hO1.mono hE0.size) (hE0.trans hE1) (by omega))
  by_cases k5 : o.k = 5
  · rw [show specO o = (val o.a.l * val o.a.l, 0) by unfold specO specW; rw [if_neg k1, if_neg k2, if_neg k3, if_neg k4, if_pos k5]]
    dsimp only
    refine enter Try.func33 rfl rfl rfl ?_
    repeat' (first | refine TL.ev (ev_simple rfl) rfl ?_ | refine TL.grun rfl rfl rfl ?_ | refine TL.gskip rfl rfl rfl rfl ?_ | refine TL.gskipU rfl rfl rfl ?_ | (refine TL.call rfl rfl ?_; first | (refine (xsquare_ok _ _ _ _ _ _ g0.sa g0.ua (by omega)).mono ?_; rintro _ w1 ⟨A1, n1, c1, rfl, hO1, hE1, hK1⟩; refine Back.mk ?_)) | refine TL.ev (ev_len rfl) rfl ?_ | (refine TL.cmpG rfl rfl rfl rfl (fun hc => ?_) (fun hc => ?_) <;> try (exfalso; omega)) | refine TL.ev (ev_arN rfl rfl rfl (by omega)) rfl ?_ | refine TL.ev (ev_arI rfl rfl rfl (by omega)) rfl ?_ | refine TL.ev (ev_neg rfl (by omega)) rfl ?_ | (refine TL.boxA (cs := opd o) rfl rfl (fun w0 b0 eb0 hV0 hE0 hz0 => ?_); have g0 := g.ext hE0) | (refine TL.ev (ev_fieldAddr rfl) rfl ?_) | (refine TL.ev (ev_loadV rfl hV0 rfl) rfl ?_) | refine T.seq ?_ | refine T.region ?_ | refine TL.nil ?_ | refine T.block ?_ | refine T.cond_t rfl ?_ | refine T.cond_f rfl ?_ | refine T.exit ?_ | refine T.ret ?_ | refine T.skip ?_ | refine G.next ?_ | refine G.blockN ?_ | refine G.blockE ?_ | refine G.blockE' rfl ?_ | refine G.blockR ?_ | refine G.thenE ?_ | refine G.thenR ?_ | refine T.regionQ mixed (by kernel_rfl) ?_ | refine TL.nilQ (fun _ => ?_) | refine G.only ?_ | refine G.mixed ?_ | refine TM.nil ?_ | refine TM.e rfl ?_)
    exact G.ret2 rfl rfl rfl (RetNE.mk (by exact hO1.mono hE0.size) (hE0.trans hE1) (by omega))
  by_cases k6 : o.k = 6
  · rw [show specO o = (if o.z < 0 then (0, 3) else if 256 < o.z then (0, 5) else (val o.a.l ^ o.z.toNat, 0)) by unfold specO specW; rw [if_neg k1, if_neg k2, if_neg k3, if_neg k4, if_neg k5, if_pos k6]]
    split
    · dsimp only
      refine enter Try.func33 rfl rfl rfl ?_
      repeat' (first | refine TL.ev (ev_simple rfl) rfl ?_ | refine TL.grun rfl rfl rfl ?_ | refine TL.gskip rfl rfl rfl rfl ?_ | refine TL.gskipU rfl rfl rfl ?_ | (refine TL.call rfl rfl ?_; first | (refine (xpow_neg _ _ _ (by omega)).mono ?_; rintro _ w1 ⟨A1, n1, c1, rfl, hO1, hE1, hK1⟩; refine Back.mk ?_)) | refine TL.ev (ev_len rfl) rfl ?_ | (refine TL.cmpG rfl rfl rfl rfl (fun hc => ?_) (fun hc => ?_) <;> try (exfalso; omega)) | refine TL.ev (ev_arN rfl rfl rfl (by omega)) rfl ?_ | refine TL.ev (ev_arI rfl rfl rfl (by omega)) rfl ?_ | refine TL.ev (ev_neg rfl (by omega)) rfl ?_ | (refine TL.boxA (cs := opd o) rfl rfl (fun w0 b0 eb0 hV0 hE0 hz0 => ?_); have g0 := g.ext hE0) | (refine TL.ev (ev_fieldAddr rfl) rfl ?_) | (refine TL.ev (ev_loadV rfl hV0 rfl) rfl ?_) | refine T.seq ?_ | refine T.region ?_ | refine TL.nil ?_ | refine T.block ?_ | refine T.cond_t rfl ?_ | refine T.cond_f rfl ?_ | refine T.exit ?_ | refine T.ret ?_ | refine T.skip ?_ | refine G.next ?_ | refine G.blockN ?_ | refine G.blockE ?_ | refine G.blockE' rfl ?_ | refine G.blockR ?_ | refine G.thenE ?_ | refine G.thenR ?_ | refine T.regionQ mixed (by kernel_rfl) ?_ | refine TL.nilQ (fun _ => ?_) | refine G.only ?_ | refine G.mixed ?_ | refine TM.nil ?_ | refine TM.e rfl ?_)
      exact G.ret2 rfl rfl rfl (RetNE.mk (by rw [dig_zero]; exact hO1.mono hE0.size) (hE0.trans hE1) (by omega))
    · rename_i hz0
      split
      · dsimp only
        refine enter Try.func33 rfl rfl rfl ?_
        repeat' (first | refine TL.ev (ev_simple rfl) rfl ?_ | refine TL.grun rfl rfl rfl ?_ | refine TL.gskip rfl rfl rfl rfl ?_ | refine TL.gskipU rfl rfl rfl ?_ | (refine TL.call rfl rfl ?_; first | (refine (xpow_big _ _ _ (by omega)).mono ?_; rintro _ w1 ⟨A1, n1, c1, rfl, hO1, hE1, hK1⟩; refine Back.mk ?_)) | refine TL.ev (ev_len rfl) rfl ?_ | (refine TL.cmpG rfl rfl rfl rfl (fun hc => ?_) (fun hc => ?_) <;> try (exfalso; omega)) | refine TL.ev (ev_arN rfl rfl rfl (by omega)) rfl ?_ | refine TL.ev (ev_arI rfl rfl rfl (by omega)) rfl ?_ | refine TL.ev (ev_neg rfl (by omega)) rfl ?_ | (refine TL.boxA (cs := opd o) rfl rfl (fun w0 b0 eb0 hV0 hE0 hz0 => ?_); have g0 := g.ext hE0) | (refine TL.ev (ev_fieldAddr rfl) rfl ?_) | (refine TL.ev (ev_loadV rfl hV0 rfl) rfl ?_) | refine T.seq ?_ | refine T.region ?_ | refine TL.nil ?_ | refine T.block ?_ | refine T.cond_t rfl ?_ | refine T.cond_f rfl ?_ | refine T.exit ?_ | refine T.ret ?_ | refine T.skip ?_ | refine G.next ?_ | refine G.blockN ?_ | refine G.blockE ?_ | refine G.blockE' rfl ?_ | refine G.blockR ?_ | refine G.thenE ?_ | refine G.thenR ?_ | refine T.regionQ mixed (by kernel_rfl) ?_ | refine TL.nilQ (fun _ => ?_) | refine G.only ?_ | refine G.mixed ?_ | refine TM.nil ?_ | refine TM.e rfl ?_)
        exact G.ret2 rfl rfl rfl (RetNE.mk (by rw [dig_zero]; exact hO1.mono hE0.size) (hE0.trans hE1) (by omega))
      · obtain ⟨j, ej, ej2⟩ := toNat_castW o.z hz0
        dsimp only
        rw [ej2]
        refine enter Try.func33 rfl rfl rfl ?_
        repeat' (first | refine TL.ev (ev_simple rfl) rfl ?_ | refine TL.grun rfl rfl rfl ?_ | refine TL.gskip rfl rfl rfl rfl ?_ | refine TL.gskipU rfl rfl rfl ?_ | (refine TL.call rfl rfl ?_; first | (refine (xpow_ok _ _ _ _ _ _ (e0 := ⟨ej⟩) g0.sa g0.ua (by omega) (by omega)).mono ?_; rintro _ w1 ⟨A1, n1, c1, rfl, hO1, hE1, hK1⟩; refine Back.mk ?_)) | refine TL.ev (ev_len rfl) rfl ?_ | (refine TL.cmpG rfl rfl rfl rfl (fun hc => ?_) (fun hc => ?_) <;> try (exfalso; omega)) | refine TL.ev (ev_arN rfl rfl rfl (by omega)) rfl ?_ | refine TL.ev (ev_arI rfl rfl rfl (by omega)) rfl ?_ | refine TL.ev (ev_neg rfl (by omega)) rfl ?_ | (refine TL.boxA (cs := opd o) rfl rfl (fun w0 b0 eb0 hV0 hE0 hz0 => ?_); have g0 := g.ext hE0) | (refine TL.ev (ev_fieldAddr rfl) rfl ?_) | (refine TL.ev (ev_loadV rfl hV0 rfl) rfl ?_) | refine T.seq ?_ | refine T.region ?_ | refine TL.nil ?_ | refine T.block ?_ | refine T.cond_t rfl ?_ | refine T.cond_f rfl ?_ | refine T.exit ?_ | refine T.ret ?_ | refine T.skip ?_ | refine G.next ?_ | refine G.blockN ?_ | refine G.blockE ?_ | refine G.blockE' rfl ?_ | refine G.blockR ?_ | refine G.thenE ?_ | refine G.thenR ?_ | refine T.regionQ mixed (by kernel_rfl) ?_ | refine TL.nilQ (fun _ => ?_) | refine G.only ?_ | refine G.mixed ?_ | refine TM.nil ?_ | refine TM.e rfl ?_)
        exact G.ret2 rfl rfl rfl (RetNE.mk (by exact hO1.mono hE0.size) (hE0.trans hE1) (by omega))
  by_cases k7 : o.k = 7
  · rw [show specO o = (prodV o.L, 0) by unfold specO specW; rw [if_neg k1, if_neg k2, if_neg k3, if_neg k4, if_neg k5, if_neg k6, if_pos k7]]
    dsimp only
    refine enter Try.func33 rfl rfl rfl ?_
    repeat' (first | refine TL.ev (ev_simple rfl) rfl ?_ | refine TL.grun rfl rfl rfl ?_ | refine TL.gskip rfl rfl rfl rfl ?_ | refine TL.gskipU rfl rfl rfl ?_ | (refine TL.call rfl rfl ?_; first | (refine (xprod_ok _ _ _ _ _ g0.sL g0.gL (by omega)).mono ?_; rintro _ w1 ⟨A1, n1, c1, rfl, hO1, hE1, hK1⟩; refine Back.mk ?_)) | refine TL.ev (ev_len rfl) rfl ?_ | (refine TL.cmpG rfl rfl rfl rfl (fun hc => ?_) (fun hc => ?_) <;> try (exfalso; omega)) | refine TL.ev (ev_arN rfl rfl rfl (by omega)) rfl ?_ | refine TL.ev (ev_arI rfl rfl rfl (by omega)) rfl ?_ | refine TL.ev (ev_neg rfl (by omega)) rfl ?_ | (refine TL.boxA (cs := opd o) rfl rfl (fun w0 b0 eb0 hV0 hE0 hz0 => ?_); have g0 := g.ext hE0) | (refine TL.ev (ev_fieldAddr rfl) rfl ?_) | (refine TL.ev (ev_loadV rfl hV0 rfl) rfl ?_) | refine T.seq ?_ | refine T.region ?_ | refine TL.nil ?_ | refine T.block ?_ | refine T.cond_t rfl ?_ | refine T.cond_f rfl ?_ | refine T.exit ?_ | refine T.ret ?_ | refine T.skip ?_ | refine G.next ?_ | refine G.blockN ?_ | refine G.blockE ?_ | refine G.blockE' rfl ?_ | refine G.blockR ?_ | refine G.thenE ?_ | refine G.thenR ?_ | refine T.regionQ mixed (by kernel_rfl) ?_ | refine TL.nilQ (fun _ => ?_) | refine G.only ?_ | refine G.mixed ?_ | refine TM.nil ?_ | refine TM.e rfl ?_)
    exact G.ret2 rfl rfl rfl (RetNE.mk (by exact hO1.mono hE0.size) (hE0.trans hE1) (by omega))
  rw [show specO o = (0, 0) by unfold specO specW; rw [if_neg k1, if_neg k2, if_neg k3, if_neg k4, if_neg k5, if_neg k6, if_neg k7]]
  dsimp only
  rw [dig_zero]
  refine enter Try.func33 rfl rfl rfl ?_
  repeat' (first | refine TL.ev (ev_simple rfl) rfl ?_ | refine TL.grun rfl rfl rfl ?_ | refine TL.gskip rfl rfl rfl rfl ?_ | refine TL.gskipU rfl rfl rfl ?_ | refine TL.ev (ev_len rfl) rfl ?_ | (refine TL.cmpG rfl rfl rfl rfl (fun hc => ?_) (fun hc => ?_) <;> try (exfalso; omega)) | refine TL.ev (ev_arN rfl rfl rfl (by omega)) rfl ?_ | refine TL.ev (ev_arI rfl rfl rfl (by omega)) rfl ?_ | refine TL.ev (ev_neg rfl (by omega)) rfl ?_ | (refine TL.boxA (cs := opd o) rfl rfl (fun w0 b0 eb0 hV0 hE0 hz0 => ?_); have g0 := g.ext hE0) | (refine TL.ev (ev_fieldAddr rfl) rfl ?_) | (refine TL.ev (ev_loadV rfl hV0 rfl) rfl ?_) | refine T.seq ?_ | refine T.region ?_ | refine TL.nil ?_ | refine T.block ?_ | refine T.cond_t rfl ?_ | refine T.cond_f rfl ?_ | refine T.exit ?_ | refine T.ret ?_ | refine T.skip ?_ | refine G.next ?_ | refine G.blockN ?_ | refine G.blockE ?_ | refine G.blockE' rfl ?_ | refine G.blockR ?_ | refine G.thenE ?_ | refine G.thenR ?_ | refine T.regionQ mixed (by kernel_rfl) ?_ | refine TL.nilQ (fun _ => ?_) | refine G.only ?_ | refine G.mixed ?_ | refine TM.nil ?_ | refine TM.e rfl ?_)
  exact G.ret2 rfl rfl rfl (RetNE.mk (Ow.nil _ _ _ _) hE0 (by omega))
end Go.Proofs.Ytgmhldapndhoeaa
