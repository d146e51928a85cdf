/- The walk of NatAll. -/
import Derived.Test.YtgmhldapndhoeaaDoorDoorF
import Derived.Test.YtgmhldapndhoeaaDoorStrs
set_option linter.unusedVariables false
set_option linter.unusedSimpArgs false
namespace Go.Proofs.YtgmhldapndhoeaaDoor
open Go Go.Eng Go.Proofs Go.NatM Go.RowKit

/-- one call's arguments -/
structure OpV where
  k : Int
  a : SA Nat
  b : SA Nat
  z : Int
instance : Inhabited OpV := ⟨⟨0, default, default, 0⟩⟩
def opc (o : OpV) : List Value := [.int .i64 o.k, .slice o.a.A o.a.n o.a.c, .slice o.b.A o.b.n o.b.c, .int .i64 o.z]
structure Good (H : Array Obj) (o : OpV) : Prop where
  sa : Sl u64v H H.size o.a.A o.a.n o.a.c o.a.l
  sb : Sl u64v H H.size o.b.A o.b.n o.b.c o.b.l
  ua : U64 o.a.l
  ub : U64 o.b.l
  na : o.a.n ≤ 1048576
  nb : o.b.n ≤ 1048576
  z : -9223372036854775808 ≤ o.z ∧ o.z < 9223372036854775808
theorem Good.ext {w w' : World} {o : OpV} (hE : Ext w w') (h : Good w.heap o) : Good w'.heap o := ⟨(h.sa.ext hE).size, (h.sb.ext hE).size, h.ua, h.ub, h.na, h.nb, h.z⟩
set_option maxRecDepth 100000 in
set_option maxHeartbeats 8000000 in
theorem right_ok (w : World) (hT : Tab w.heap) (o : OpV) (g : Good w.heap o) : Cl Tryd.prog 35 #[.agg (opc o).toArray] w (Yes w) := by
  refine enter Tryd.func35 rfl rfl rfl ?_
  repeat' (first | refine TL.ev (ev_simple rfl) rfl ?_ | refine TL.grun rfl rfl rfl ?_ | refine TL.gskip rfl rfl rfl rfl ?_ | refine TL.gskipU rfl rfl rfl ?_ | (refine TL.call rfl rfl ?_; first | (refine (wanted_ok _ _ _ _ _ _ _ _ _ _ _ _ _ g0.sa g0.sb g0.ua g0.ub g0.na g0.nb g0.z).mono ?_; rintro _ w1 ⟨A1, n1, c1, rfl, hO1, hE1, hK1⟩; refine Back.mk ?_; have hV1 := hV0.ext hE1; have g1 := g0.ext hE1; have hS1 := hO1.sl (Nat.le_refl _)) | (refine (wantedNumber_ok _ _ _ _ _ _ _ _ _ _ _ _ _ g0.sa g0.sb g0.ua g0.ub g0.na g0.nb g0.z).mono ?_; rintro _ w1 ⟨rfl, hE1⟩; refine Back.mk ?_; have hV1 := hV0.ext hE1; have g1 := g0.ext hE1; have hT1 := hT0.ext hE1) | (refine (list_ok _ _ _ _ _ _ _ _ _ _ _ _ _ g1.sa g1.sb g1.ua g1.ub g1.na g1.nb g1.z).mono ?_; rintro _ w2 ⟨A2, n2, c2, rfl, hO2, hE2, hK2⟩; refine Back.mk ?_; have hV2 := hV1.ext hE2; have hS2 := hO2.sl (Nat.le_refl _); have hS1 := hS1.ext hE2) | (refine (number_ok _ hT1 _ _ _ _ _ _ _ _ _ _ _ _ g1.sa g1.sb g1.ua g1.ub g1.na g1.nb g1.z).mono ?_; rintro _ w2 ⟨rfl, hE2⟩; refine Back.mk ?_; have hV2 := hV1.ext hE2) | (refine (same_t _ _ _ _ _ _ _ _ _ _ _ (by first | exact hS1 | exact hS2) (by first | exact hS2 | exact hS1) (by omega) (by omega) rfl).cl.mono ?_; rintro _ _ ⟨rfl, q1, rfl⟩; refine Back.mk ?_)) | refine TL.ev (ev_len rfl) rfl ?_ | (refine TL.cmpG rfl rfl rfl rfl (fun hc => ?_) (fun hc => ?_) <;> try (exfalso; omega)) | refine TL.ev (ev_arN rfl rfl rfl (by omega)) rfl ?_ | refine TL.ev (ev_arI rfl rfl rfl (by omega)) rfl ?_ | refine TL.ev (ev_neg rfl (by omega)) rfl ?_ | refine TL.ev (ev_eqlB (r := true) rfl rfl rfl) rfl ?_ | refine TL.ev (ev_eqlB (r := false) rfl rfl rfl) rfl ?_ | refine TL.ev (ev_neqB (r := true) rfl rfl rfl) rfl ?_ | refine TL.ev (ev_neqB (r := false) rfl rfl rfl) rfl ?_ | (refine TL.boxA (cs := opc o) rfl rfl (fun w0 b0 eb0 hV0 hE0 hz0 => ?_); have g0 := g.ext hE0; have hT0 := hT.ext hE0) | (refine TL.ev (ev_fieldAddr rfl) rfl ?_) | (refine TL.ev (ev_loadV rfl hV2 rfl) rfl ?_) | (refine TL.ev (ev_loadV rfl hV1 rfl) rfl ?_) | (refine TL.ev (ev_loadV rfl hV0 rfl) rfl ?_) | refine T.seq ?_ | refine T.region ?_ | refine TL.nil ?_ | refine T.block ?_ | refine T.cond_t rfl ?_ | refine T.cond_f rfl ?_ | refine T.exit ?_ | refine T.ret ?_ | refine T.skip ?_ | refine G.next ?_ | refine G.blockN ?_ | refine G.blockE ?_ | refine G.blockE' rfl ?_ | refine G.blockR ?_ | refine G.thenE ?_ | refine G.thenR ?_ | refine T.regionQ mixed (by kernel_rfl) ?_ | refine TL.nilQ (fun _ => ?_) | refine G.only ?_ | refine G.mixed ?_ | refine TM.nil ?_ | refine TM.e rfl ?_)
  all_goals exact G.ret1 rfl rfl (Yes.mk (by repeat (first | exact Ext.refl _ | refine Ext.trans ?_ (by assumption) | refine Ext.drewN ?_ _)))
set_option maxRecDepth 100000 in
set_option maxHeartbeats 8000000 in
theorem upTo_ok (w : World) (hT : Tab w.heap) (A : Option Addr) (n c : Nat) (L : List OpV) (lo hi : Int) (hs : Sm 4 opc w.heap w.heap.size A n c L) (hL : ∀ o ∈ L, Good w.heap o) (hn : n ≤ 1048576) :
    Cl Tryd.prog 19 #[.slice A n c, .int .i64 lo, .int .i64 hi] w (Yes w) := by
  have hlen := hs.len
  refine enter Tryd.func19 rfl rfl rfl ?_
  repeat' (first | refine TL.ev (ev_simple rfl) rfl ?_ | refine TL.grun rfl rfl rfl ?_ | refine TL.gskip rfl rfl rfl rfl ?_ | refine TL.gskipU rfl rfl rfl ?_ | (refine TL.call rfl rfl ?_; first | (refine (awake_ok _).mono ?_; rintro _ w1 ⟨rfl, hE1⟩; refine Back.mk ?_)) | refine TL.ev (ev_len rfl) rfl ?_ | (refine TL.cmpG rfl rfl rfl rfl (fun hc => ?_) (fun hc => ?_) <;> try (exfalso; omega)) | refine TL.ev (ev_arN rfl rfl rfl (by omega)) rfl ?_ | refine TL.ev (ev_arI rfl rfl rfl (by omega)) rfl ?_ | refine TL.ev (ev_neg rfl (by omega)) rfl ?_ | refine TL.ev (ev_eqlB (r := true) rfl rfl rfl) rfl ?_ | refine TL.ev (ev_eqlB (r := false) rfl rfl rfl) rfl ?_ | refine TL.ev (ev_neqB (r := true) rfl rfl rfl) rfl ?_ | refine TL.ev (ev_neqB (r := false) rfl rfl rfl) rfl ?_ | refine T.seq ?_ | refine T.region ?_ | refine TL.nil ?_ | refine T.block ?_ | refine T.cond_t rfl ?_ | refine T.cond_f rfl ?_ | refine T.exit ?_ | refine T.ret ?_ | refine T.skip ?_ | refine G.next ?_ | refine G.blockN ?_ | refine G.blockE ?_ | refine G.blockE' rfl ?_ | refine G.blockR ?_ | refine G.thenE ?_ | refine G.thenR ?_ | refine T.regionQ mixed (by kernel_rfl) ?_ | refine TL.nilQ (fun _ => ?_) | refine G.only ?_ | refine G.mixed ?_ | refine TM.nil ?_ | refine TM.e rfl ?_)
  refine T.loop (α := Nat) (fun i => [(0, .slice A n c), (1, .int .i64 lo), (2, .int .i64 hi), (7, .int .i64 (i : Int))]) (fun i w' => i ≤ n ∧ Ext w w') (fun i => n - i) 0 (by repeat (first | exact Sub.nil _ | refine Sub.cons rfl ?_ | refine Sub.cons' rfl (int_congr (by omega)) ?_)) ⟨Nat.zero_le _, hE1⟩ ?_
  rintro i w2 ⟨hi', hE2⟩
  have s2 := hs.ext hE2
  have hT2 := hT.ext hE2
  rcases Nat.lt_or_ge i n with hin | hin
  · have hy : L[i]? = some (L.getD i default) := by simp [List.getD, show i < L.length by omega]
    have g2 := (hL _ (List.mem_of_getElem? hy)).ext hE2
    generalize L.getD i default = o at *
    repeat' (first | refine TL.ev (ev_simple rfl) rfl ?_ | refine TL.grun rfl rfl rfl ?_ | refine TL.gskip rfl rfl rfl rfl ?_ | refine TL.gskipU rfl rfl rfl ?_ | (refine TL.call rfl rfl ?_; first | (refine (right_ok _ (hT2.ext hE24) o (g2.ext hE24)).mono ?_; rintro _ w5 ⟨rfl, hE5⟩; refine Back.mk ?_)) | refine TL.ev (ev_len rfl) rfl ?_ | (refine TL.cmpG rfl rfl rfl rfl (fun hc => ?_) (fun hc => ?_) <;> try (exfalso; omega)) | refine TL.ev (ev_arN rfl rfl rfl (by omega)) rfl ?_ | refine TL.ev (ev_arI rfl rfl rfl (by omega)) rfl ?_ | refine TL.ev (ev_neg rfl (by omega)) rfl ?_ | refine TL.ev (ev_eqlB (r := true) rfl rfl rfl) rfl ?_ | refine TL.ev (ev_eqlB (r := false) rfl rfl rfl) rfl ?_ | refine TL.ev (ev_neqB (r := true) rfl rfl rfl) rfl ?_ | refine TL.ev (ev_neqB (r := false) rfl rfl rfl) rfl ?_ | (refine TL.ev (ev_indexM rfl rfl (by omega) s2.some) rfl ?_) | (refine TL.ev (ev_loadM rfl s2 hy) rfl ?_) | (refine TL.alloc rfl (fun w3 b3 eb3 hV3 hE3 hz3 => ?_)) | (refine TL.storeVA (vs := opc o) rfl rfl rfl rfl hV3 rfl (fun w4 hV4 hU4 => ?_); have hE4 := hE2.trans (Ext.upd hE3 hU4 (by omega)); have hE24 : Ext w2 w4 := Ext.upd hE3 hU4 (by omega)) | (refine TL.ev (ev_fieldAddr rfl) rfl ?_) | (refine TL.ev (ev_loadV rfl hV4 rfl) rfl ?_) | (refine TL.ev (ev_loadVA rfl hV4 rfl) rfl ?_) | refine T.seq ?_ | refine T.region ?_ | refine TL.nil ?_ | refine T.block ?_ | refine T.cond_t rfl ?_ | refine T.cond_f rfl ?_ | refine T.exit ?_ | refine T.ret ?_ | refine T.skip ?_ | refine G.next ?_ | refine G.blockN ?_ | refine G.blockE ?_ | refine G.blockE' rfl ?_ | refine G.blockR ?_ | refine G.thenE ?_ | refine G.thenR ?_ | refine T.regionQ mixed (by kernel_rfl) ?_ | refine TL.nilQ (fun _ => ?_) | refine G.only ?_ | refine G.mixed ?_ | refine TM.nil ?_ | refine TM.e rfl ?_)
    all_goals exact G.again (i + 1) (by repeat (first | exact Sub.nil _ | refine Sub.cons rfl ?_ | refine Sub.cons' rfl (int_congr (by omega)) ?_)) ⟨by omega, (by repeat (first | exact Ext.refl _ | refine Ext.trans ?_ (by assumption) | refine Ext.drewN ?_ _))⟩ (by omega)
  · obtain rfl : i = n := by omega
    repeat' (first | refine TL.ev (ev_simple rfl) rfl ?_ | refine TL.grun rfl rfl rfl ?_ | refine TL.gskip rfl rfl rfl rfl ?_ | refine TL.gskipU rfl rfl rfl ?_ | refine TL.ev (ev_len rfl) rfl ?_ | (refine TL.cmpG rfl rfl rfl rfl (fun hc => ?_) (fun hc => ?_) <;> try (exfalso; omega)) | refine TL.ev (ev_arN rfl rfl rfl (by omega)) rfl ?_ | refine TL.ev (ev_arI rfl rfl rfl (by omega)) rfl ?_ | refine TL.ev (ev_neg rfl (by omega)) rfl ?_ | refine TL.ev (ev_eqlB (r := true) rfl rfl rfl) rfl ?_ | refine TL.ev (ev_eqlB (r := false) rfl rfl rfl) rfl ?_ | refine TL.ev (ev_neqB (r := true) rfl rfl rfl) rfl ?_ | refine TL.ev (ev_neqB (r := false) rfl rfl rfl) rfl ?_ | refine T.seq ?_ | refine T.region ?_ | refine TL.nil ?_ | refine T.block ?_ | refine T.cond_t rfl ?_ | refine T.cond_f rfl ?_ | refine T.exit ?_ | refine T.ret ?_ | refine T.skip ?_ | refine G.next ?_ | refine G.blockN ?_ | refine G.blockE ?_ | refine G.blockE' rfl ?_ | refine G.blockR ?_ | refine G.thenE ?_ | refine G.thenR ?_ | refine T.regionQ mixed (by kernel_rfl) ?_ | refine TL.nilQ (fun _ => ?_) | refine G.only ?_ | refine G.mixed ?_ | refine TM.nil ?_ | refine TM.e rfl ?_)
    exact G.ret1 rfl rfl (Yes.mk hE2)
theorem natAll_walk (w : World) (hT : Tab w.heap) (A : Option Addr) (n c : Nat) (L : List OpV) (hs : Sm 4 opc w.heap w.heap.size A n c L) (hL : ∀ o ∈ L, Good w.heap o) (hn : n ≤ 1048576) :
    Cl Tryd.prog 5 #[.slice A n c] w (Yes w) := by
  refine enter Tryd.func5 rfl rfl rfl ?_
  repeat' (first | refine TL.ev (ev_simple rfl) rfl ?_ | refine TL.grun rfl rfl rfl ?_ | refine TL.gskip rfl rfl rfl rfl ?_ | refine TL.gskipU rfl rfl rfl ?_ | (refine TL.call rfl rfl ?_; first | (refine (upTo_ok _ hT _ _ _ _ _ _ hs hL hn).mono ?_; rintro _ w1 ⟨rfl, hE1⟩; refine Back.mk ?_)) | refine TL.ev (ev_len rfl) rfl ?_ | (refine TL.cmpG rfl rfl rfl rfl (fun hc => ?_) (fun hc => ?_) <;> try (exfalso; omega)) | refine TL.ev (ev_arN rfl rfl rfl (by omega)) rfl ?_ | refine TL.ev (ev_arI rfl rfl rfl (by omega)) rfl ?_ | refine TL.ev (ev_neg rfl (by omega)) rfl ?_ | refine TL.ev (ev_eqlB (r := true) rfl rfl rfl) rfl ?_ | refine TL.ev (ev_eqlB (r := false) rfl rfl rfl) rfl ?_ | refine TL.ev (ev_neqB (r := true) rfl rfl rfl) rfl ?_ | refine TL.ev (ev_neqB (r := false) rfl rfl rfl) rfl ?_ | refine T.seq ?_ | refine T.region ?_ | refine TL.nil ?_ | refine T.block ?_ | refine T.cond_t rfl ?_ | refine T.cond_f rfl ?_ | refine T.exit ?_ | refine T.ret ?_ | refine T.skip ?_ | refine G.next ?_ | refine G.blockN ?_ | refine G.blockE ?_ | refine G.blockE' rfl ?_ | refine G.blockR ?_ | refine G.thenE ?_ | refine G.thenR ?_ | refine T.regionQ mixed (by kernel_rfl) ?_ | refine TL.nilQ (fun _ => ?_) | refine G.only ?_ | refine G.mixed ?_ | refine TM.nil ?_ | refine TM.e rfl ?_)
  exact G.ret1 rfl rfl (Yes.mk hE1)
end Go.Proofs.YtgmhldapndhoeaaDoor
