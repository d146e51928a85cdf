/- Layer 11: the law's num, awake, equal. Layer 11: the law StepsProducts. From a law's row to its walk: arguments as the engine has them. What the bound of an Upto statement gives. Layers 1 and 2: contracts of nat.Shl, mulnat.MulLow. Layer 2: contracts of math/bits.Len, mulnat.Pow. Layer 2: contract of mulnat.Product. Arguments as the engine has them, more: slices of slices of words. Arguments as the engine has them, more: slices of structs, of whatever depth. Arguments as the engine has them: integers and matrices. Opening matrices handed in, with the range of their numbers. Opening a slice of steps handed in. -/
import Derived.Test.YtdhmhjbmkimplaaPp14
import Derived.Test.YtdhmhjbmkimplaaPp10
import Derived.Test.YtdhmhjbmkimplaaPp4
import Derived.ProofKit
import Derived.OpenShut
import Derived.ChangeOld
import Derived.SizedLaws
import Derived.Test.YtdhmhjbmkimplaaRows
import Derived.Test.YtdhmhjbmkimplaaPp6
import Derived.Deep.Slices
import Derived.Test.YtdhmhjbmkimplaaPp3
import Derived.Test.YtdhmhjbmkimplaaPp9
import Derived.Test.YtdhmhjbmkimplaaPp13
set_option linter.unusedVariables false
set_option linter.unusedSimpArgs false
namespace Go.Proofs.Ytdhmhjbmkimplaa
open Go Go.Eng Go.Proofs Go.NatM Go.RowKit

theorem num_ok (w : World) {z : Int} {n : Nat} [e0 : IsN z n] (h0 : 0 < n) (hn : n < 2147483648) : Cl Try.prog 23 #[.int .i64 z] w (fun e w' => ∃ A, e = .returned (.agg (ivc ⟨false, ⟨A, 1, 1, [n]⟩⟩).toArray) ∧ LI w'.heap n ⟨false, ⟨A, 1, 1, [n]⟩⟩ ∧ Ext w w') := by
  obtain rfl := e0.out
  refine enter Try.func23 rfl rfl rfl ?_
  repeat' (first | refine TL.ev (ev_simple rfl) rfl ?_ | refine TL.grun rfl rfl rfl ?_ | refine TL.gskip rfl rfl rfl rfl ?_ | refine TL.gskipU rfl rfl rfl ?_ | refine TL.ev (ev_len rfl) rfl ?_ | (refine TL.cmpG rfl rfl rfl rfl (fun hc => ?_) (fun hc => ?_) <;> try (exfalso; omega)) | refine TL.ev (ev_arN rfl rfl rfl (by omega)) rfl ?_ | refine TL.ev (ev_arI rfl rfl rfl (by omega)) rfl ?_ | refine TL.ev (ev_neg rfl (by omega)) rfl ?_ | refine TL.ev (ev_shrU rfl rfl (by first | omega | exact U64.getD (by assumption) _)) rfl ?_ | refine TL.ev (ev_shlU rfl rfl) rfl ?_ | refine TL.ev (ev_andU rfl rfl (by first | omega | exact U64.getD (by assumption) _) (by first | omega | exact U64.getD (by assumption) _)) rfl ?_ | refine TL.ev (ev_orU rfl rfl (by first | omega | exact U64.getD (by assumption) _) (by first | omega | exact U64.getD (by assumption) _)) rfl ?_ | refine TL.ev (ev_xorU rfl rfl (by first | omega | exact U64.getD (by assumption) _) (by first | omega | exact U64.getD (by assumption) _)) rfl ?_ | refine TL.ev (ev_convU rfl (by omega)) rfl ?_ | refine TL.ev (ev_convI rfl (by omega)) rfl ?_ | refine TL.ev (ev_arU rfl rfl rfl (by first | exact True.intro | omega)) rfl ?_ | (refine TL.build1U rfl rfl (fun wn bn ebn hBn hEn hzn => ?_); have hSn := hBn.slN (n := 1) (c := 1) rfl (Nat.le_refl _) hBn.lt) | (refine TL.boxA rfl rfl (fun wb bb ebb hVb hEb hzb => ?_); have hlb := box_lo (w0 := w) (by repeat (first | exact Ext.refl _ | (refine Ext.trans ?_ (by assumption)) | (apply ext_upd; assumption; rotate_left; omega))) ebb) | (refine TL.alloc rfl (fun wa ba eba hVa hEa hza => ?_); have hla := box_lo (w0 := w) (by repeat (first | exact Ext.refl _ | (refine Ext.trans ?_ (by assumption)) | (apply ext_upd; assumption; rotate_left; omega))) eba) | (refine TL.ev (ev_fieldAddr rfl) rfl ?_) | (refine TF.s rfl (fun _ _ => ev_fieldAddr rfl) rfl ?_) | (refine TL.ev (ev_loadVX rfl (by refine ⟨?_, ?_⟩; (focus (repeat (first | assumption | (apply Vr.ext; assumption) | (apply Vr.updX; assumption; rotate_left; omega)))); rfl)) rfl ?_) | (refine TF.s rfl (fun _ hh => ev_loadVX rfl (by refine ⟨Vr.ext hh ?_, ?_⟩; (focus (repeat (first | assumption | (apply Vr.ext; assumption) | (apply Vr.updX; assumption; rotate_left; omega)))); rfl)) rfl ?_) | (refine TL.ev (ev_loadVAX rfl (by refine ⟨?_, ?_⟩; (focus (repeat (first | assumption | (apply Vr.ext; assumption) | (apply Vr.updX; assumption; rotate_left; omega)))); rfl)) rfl ?_) | (refine TF.s rfl (fun _ hh => ev_loadVAX rfl (by refine ⟨Vr.ext hh ?_, ?_⟩; (focus (repeat (first | assumption | (apply Vr.ext; assumption) | (apply Vr.updX; assumption; rotate_left; omega)))); rfl)) rfl ?_) | (refine TL.storeVX rfl rfl rfl rfl (by refine ⟨?_, ?_⟩; (focus (repeat (first | assumption | (apply Vr.ext; assumption) | (apply Vr.updX; assumption; rotate_left; omega)))); rfl) (fun ws hVs hUs hzs => ?_)) | (refine TL.storeX rfl rfl rfl rfl (by refine ⟨?_, ?_⟩; (focus (repeat (first | assumption | (apply Vr.ext; assumption) | (apply Vr.updX; assumption; rotate_left; omega)))); rfl) (fun ws hVs hUs hzs => ?_)) | (refine TL.ev (ev_buildX rfl rfl) rfl ?_) | (refine TF.s rfl (fun _ _ => ev_buildX rfl rfl) rfl ?_) | (refine TL.ev (ev_field rfl rfl) rfl ?_) | (refine TL.ev (ev_makeFunc rfl) rfl ?_) | (refine TF.s rfl (fun _ _ => ev_makeFunc rfl) rfl ?_) | refine TF.nil ?_ | refine TF.e rfl ?_ | refine TF.alt ?_ ?_ | refine G.treeEnd rfl ?_ | refine G.tree rfl (by repeat (first | exact Ext.refl _ | (refine Ext.trans ?_ (by assumption)) | (apply ext_upd; assumption; rotate_left; omega))) ?_ | refine TL.nilX (fun wq hzq hEq => ?_) | refine T.seq ?_ | refine T.region ?_ | refine TL.nil ?_ | refine T.block ?_ | refine T.cond_t rfl ?_ | refine T.cond_f rfl ?_ | refine T.exit ?_ | refine T.ret ?_ | refine T.skip ?_ | refine G.next ?_ | refine G.blockN ?_ | refine G.blockE ?_ | refine G.blockE' rfl ?_ | refine G.blockR ?_ | refine G.thenE ?_ | refine G.thenR ?_ | refine T.regionQ mixed (by kernel_rfl) ?_ | refine TL.nilQ (fun _ => ?_) | refine G.only ?_ | refine G.mixed ?_ | refine TM.nil ?_ | refine TM.e rfl ?_)
  have hS : Sl u64v ws.heap wn.heap.size (some ⟨bn, 0, none⟩) 1 1 [n] := (by first | ((repeat (first | assumption | (apply Sl.ext; assumption) | (apply Sm.ext; assumption) | (apply Sl.upd; assumption) | (apply Sm.upd; assumption) | omega)); done) | ((repeat (first | assumption | (apply Sl.ext; assumption) | (apply Sm.ext; assumption) | (apply sl_updV; assumption; (focus (repeat (first | assumption | (apply Vr.ext; assumption) | (apply Vr.updX; assumption; rotate_left; omega)))); rfl))); done))
  exact G.retC1 rfl rfl (held_agg hVs rfl) ⟨_, rfl, ⟨⟨hS.size, U64.one (by omega)⟩, by rw [Int.natAbs_natCast, dig_small (by omega) (by omega)], (decide_eq_false (by omega)).symm⟩, (by repeat (first | exact Ext.refl _ | (refine Ext.trans ?_ (by assumption)) | (apply ext_upd; assumption; rotate_left; omega)))⟩
theorem num_0 (w : World) : Cl Try.prog 23 #[.int .i64 0] w (fun e w' => e = .returned (.agg #[.bool false, .slice none 0 0]) ∧ Ext w w') := by
  refine enter Try.func23 rfl rfl rfl ?_
  repeat' (first | refine TL.ev (ev_simple rfl) rfl ?_ | refine TL.grun rfl rfl rfl ?_ | refine TL.gskip rfl rfl rfl rfl ?_ | refine TL.gskipU rfl rfl rfl ?_ | refine TL.ev (ev_len rfl) rfl ?_ | (refine TL.cmpG rfl rfl rfl rfl (fun hc => ?_) (fun hc => ?_) <;> try first | (exfalso; omega) | exact absurd rfl hc) | refine TL.ev (ev_arN rfl rfl rfl (by omega)) rfl ?_ | refine TL.ev (ev_arI rfl rfl rfl (by omega)) rfl ?_ | refine TL.ev (ev_neg rfl (by omega)) rfl ?_ | refine TL.ev (ev_shrU rfl rfl (by first | omega | exact U64.getD (by assumption) _)) rfl ?_ | refine TL.ev (ev_shlU rfl rfl) rfl ?_ | refine TL.ev (ev_andU rfl rfl (by first | omega | exact U64.getD (by assumption) _) (by first | omega | exact U64.getD (by assumption) _)) rfl ?_ | refine TL.ev (ev_orU rfl rfl (by first | omega | exact U64.getD (by assumption) _) (by first | omega | exact U64.getD (by assumption) _)) rfl ?_ | refine TL.ev (ev_xorU rfl rfl (by first | omega | exact U64.getD (by assumption) _) (by first | omega | exact U64.getD (by assumption) _)) rfl ?_ | refine TL.ev (ev_convU rfl (by omega)) rfl ?_ | refine TL.ev (ev_convI rfl (by omega)) rfl ?_ | refine TL.ev (ev_arU rfl rfl rfl (by first | exact True.intro | omega)) rfl ?_ | (refine TL.boxA rfl rfl (fun wb bb ebb hVb hEb hzb => ?_); have hlb := box_lo (w0 := w) (by repeat (first | exact Ext.refl _ | (refine Ext.trans ?_ (by assumption)) | (apply ext_upd; assumption; rotate_left; omega))) ebb) | (refine TL.alloc rfl (fun wa ba eba hVa hEa hza => ?_); have hla := box_lo (w0 := w) (by repeat (first | exact Ext.refl _ | (refine Ext.trans ?_ (by assumption)) | (apply ext_upd; assumption; rotate_left; omega))) eba) | (refine TL.ev (ev_fieldAddr rfl) rfl ?_) | (refine TF.s rfl (fun _ _ => ev_fieldAddr rfl) rfl ?_) | (refine TL.ev (ev_loadVX rfl (by refine ⟨?_, ?_⟩; (focus (repeat (first | assumption | (apply Vr.ext; assumption) | (apply Vr.updX; assumption; rotate_left; omega)))); rfl)) rfl ?_) | (refine TF.s rfl (fun _ hh => ev_loadVX rfl (by refine ⟨Vr.ext hh ?_, ?_⟩; (focus (repeat (first | assumption | (apply Vr.ext; assumption) | (apply Vr.updX; assumption; rotate_left; omega)))); rfl)) rfl ?_) | (refine TL.ev (ev_loadVAX rfl (by refine ⟨?_, ?_⟩; (focus (repeat (first | assumption | (apply Vr.ext; assumption) | (apply Vr.updX; assumption; rotate_left; omega)))); rfl)) rfl ?_) | (refine TF.s rfl (fun _ hh => ev_loadVAX rfl (by refine ⟨Vr.ext hh ?_, ?_⟩; (focus (repeat (first | assumption | (apply Vr.ext; assumption) | (apply Vr.updX; assumption; rotate_left; omega)))); rfl)) rfl ?_) | (refine TL.storeVX rfl rfl rfl rfl (by refine ⟨?_, ?_⟩; (focus (repeat (first | assumption | (apply Vr.ext; assumption) | (apply Vr.updX; assumption; rotate_left; omega)))); rfl) (fun ws hVs hUs hzs => ?_)) | (refine TL.storeX rfl rfl rfl rfl (by refine ⟨?_, ?_⟩; (focus (repeat (first | assumption | (apply Vr.ext; assumption) | (apply Vr.updX; assumption; rotate_left; omega)))); rfl) (fun ws hVs hUs hzs => ?_)) | (refine TL.ev (ev_buildX rfl rfl) rfl ?_) | (refine TF.s rfl (fun _ _ => ev_buildX rfl rfl) rfl ?_) | (refine TL.ev (ev_field rfl rfl) rfl ?_) | (refine TL.ev (ev_makeFunc rfl) rfl ?_) | (refine TF.s rfl (fun _ _ => ev_makeFunc rfl) rfl ?_) | refine TF.nil ?_ | refine TF.e rfl ?_ | refine TF.alt ?_ ?_ | refine G.treeEnd rfl ?_ | refine G.tree rfl (by repeat (first | exact Ext.refl _ | (refine Ext.trans ?_ (by assumption)) | (apply ext_upd; assumption; rotate_left; omega))) ?_ | refine TL.nilX (fun wq hzq hEq => ?_) | refine T.seq ?_ | refine T.region ?_ | refine TL.nil ?_ | refine T.block ?_ | refine T.cond_t rfl ?_ | refine T.cond_f rfl ?_ | refine T.exit ?_ | refine T.ret ?_ | refine T.skip ?_ | refine G.next ?_ | refine G.blockN ?_ | refine G.blockE ?_ | refine G.blockE' rfl ?_ | refine G.blockR ?_ | refine G.thenE ?_ | refine G.thenR ?_ | refine T.regionQ mixed (by kernel_rfl) ?_ | refine TL.nilQ (fun _ => ?_) | refine G.only ?_ | refine G.mixed ?_ | refine TM.nil ?_ | refine TM.e rfl ?_)
  exact G.retC1 rfl rfl (held_agg hVs rfl) ⟨rfl, (by repeat (first | exact Ext.refl _ | (refine Ext.trans ?_ (by assumption)) | (apply ext_upd; assumption; rotate_left; omega)))⟩
set_option maxHeartbeats 800000 in
theorem equal_t (w : World) (x y : MV) (r c K K' : Nat) (F F' : Nat → Nat → Int) (hx : LM w.heap x r c F K) (hy : LM w.heap y r c F' K') (hFF : ∀ i j, i < r → j < c → F i j = F' i j) (hK : K ≤ 1099511627776) (hK' : K' ≤ 1099511627776) :
    Cl Try.prog 13 #[.agg (mvc x).toArray, .int .i64 0, .agg (mvc y).toArray, .int .i64 0] w (YesM w) := by
  have hM := fun w1 (hE : Ext w w1) => likeMat_t w1 x y r c K K' F F' (hx.ext hE) (hy.ext hE) hFF hK hK'
  clear hx hy
  obtain ⟨xr, xc, xA, xn, xk, xl⟩ := x
  obtain ⟨yr, yc, yA, yn, yk, yl⟩ := y
  refine enter Try.func13 rfl rfl rfl ?_
  have hF0 := Fr.refl w
  have hF := hF0
  clear hF0
  repeat' (first | (refine TL.isOp ?_; first | (refine TL.isG ?_; first | refine TL.grun rfl rfl rfl ?_ | refine TL.gskip rfl rfl rfl rfl ?_ | refine TL.gskipU rfl rfl rfl ?_) | (refine TL.isCall ?_; refine TL.call rfl rfl ?_; first | (refine (hM _ hF.ext).mono ?_; rintro _ wc ⟨rfl, hE⟩; replace hF := hF.exts hE; clear hE; refine Back.mk ?_)) | (refine TL.isBin ?_; refine TL.cmpG rfl rfl rfl rfl (fun hc => ?_) (fun hc => ?_) <;> (try (first | (exfalso; omega) | exact absurd rfl hc))) | (apply TL.ev; (case hd => rfl); (case h => (first | exact ev_simple rfl | (apply Ev.isBin; first | exact ev_arN rfl rfl rfl (by omega) | exact ev_arI rfl rfl rfl (by omega) | exact ev_eqlB (r := true) rfl rfl rfl | exact ev_eqlB (r := false) rfl rfl rfl | exact ev_neqB (r := true) rfl rfl rfl | exact ev_neqB (r := false) rfl rfl rfl) | (apply Ev.isLoad; first | exact ev_loadFr hF rfl (by refine ⟨?_, ?_⟩; (focus (repeat (first | exact InV.head | apply InV.tail))); rfl) | exact ev_loadAFr hF rfl (by refine ⟨?_, ?_⟩; (focus (repeat (first | exact InV.head | apply InV.tail))); rfl)) | exact ev_len rfl | exact ev_fieldAddr rfl | exact ev_field rfl rfl | exact ev_fieldA rfl rfl | exact ev_buildX rfl rfl | exact ev_makeFunc rfl | exact ev_nilCheck rfl | exact ev_neg rfl (by omega) | exact ev_cap rfl))) | (refine TL.storeAFr hF rfl rfl rfl rfl (by refine ⟨?_, ?_⟩; (focus (repeat (first | apply SetV.head | apply SetV.tail))); rfl) rfl ?_; clear hF; intro ws hF) | (refine TL.storeFr hF rfl rfl rfl rfl (by refine ⟨?_, ?_⟩; (focus (repeat (first | apply SetV.head | apply SetV.tail))); rfl) rfl ?_; clear hF; intro ws hF) | (refine TL.boxAFr hF (d := 4) (cs := [.int .i64 xr, .int .i64 xc, .slice xA xn xk]) rfl rfl ?_; clear hF; intro w4 b4 hF) | (refine TL.boxAFr hF (d := 6) (cs := [.int .i64 yr, .int .i64 yc, .slice yA yn yk]) rfl rfl ?_; clear hF; intro w6 b6 hF) | (refine TL.boxAFr hF rfl rfl ?_; clear hF; intro wb bb hF) | (refine TL.boxFr hF rfl rfl ?_; clear hF; intro wb bb hF) | (refine TL.allocFr hF rfl rfl ?_; clear hF; intro wa ba hF)) | (refine T.is ?_; first | refine T.seq ?_ | refine T.region ?_ | refine T.block ?_ | refine T.cond_t rfl ?_ | refine T.cond_f rfl ?_ | refine T.exit ?_ | refine T.ret ?_ | refine T.skip ?_ | refine T.regionQ mixed (by kernel_rfl) ?_) | (refine G.is ?_; first | refine G.next ?_ | refine G.blockN ?_ | refine G.blockE ?_ | refine G.blockE' rfl ?_ | refine G.blockR ?_ | refine G.thenE ?_ | refine G.thenR ?_ | refine G.only ?_) | refine TL.nil ?_ | (refine TL.nilFr hF ?_; clear hF; intro wq hF))
  exact G.ret1 rfl rfl ⟨rfl, hF.ext⟩
theorem lm_four {H : Array Obj} {A : Option Addr} {a b c d : IV} {p q r s : Int} {K : Nat} (hs : Sm 2 ivc H H.size A 4 4 [a, b, c, d]) (ha : LI H p a) (hb : LI H q b) (hc : LI H r c) (hd : LI H s d) (na : a.m.n ≤ K) (nb : b.m.n ≤ K) (nc : c.m.n ≤ K) (nd : d.m.n ≤ K) :
    LM H ⟨2, 2, A, 4, 4, [a, b, c, d]⟩ 2 2 (fun i j => if i = 0 then (if j = 0 then p else q) else (if j = 0 then r else s)) K :=
  ⟨⟨rfl, rfl, by omega, by omega, rfl⟩, hs, fun i j hi hj => by
    rcases (show i = 0 ∨ i = 1 by omega) with rfl | rfl <;> rcases (show j = 0 ∨ j = 1 by omega) with rfl | rfl
    · exact ⟨ha, na⟩
    · exact ⟨hb, nb⟩
    · exact ⟨hc, nc⟩
    · exact ⟨hd, nd⟩⟩
theorem li_nought0 (H : Array Obj) : LI H 0 ⟨false, ⟨none, 0, 0, []⟩⟩ := ⟨⟨⟨rfl, Nat.le_refl _, .inl rfl⟩, fun x hx => (by cases hx)⟩, by simp [dig], by decide⟩
theorem nought_gi (H : Array Obj) : GI H ⟨false, ⟨none, 0, 0, []⟩⟩ := (li_nought0 H).g
def two (A : Option Addr) : List SP := [⟨1, 0, 1, ⟨false, ⟨none, 0, 0, []⟩⟩⟩, ⟨3, 0, 1, ⟨false, ⟨A, 1, 1, [5]⟩⟩⟩]
theorem two_fits (A : Option Addr) : ∀ s ∈ two A, fits 2 s := by
  intro s hs
  simp only [two, List.mem_cons, List.not_mem_nil, or_false] at hs
  rcases hs with rfl | rfl
  · exact .inl ⟨rfl, by decide, by decide⟩
  · exact .inr (.inr ⟨rfl, (show (0 : Int) ≤ 0 ∧ (0 : Int) < ((2 : Nat) : Int) by decide), (show (0 : Int) ≤ 1 ∧ (1 : Int) < ((2 : Nat) : Int) by decide), (show (0 : Int) ≠ 1 by decide)⟩)
theorem two_F (A : Option Addr) (i j : Nat) (hi : i < 2) (hj : j < 2) : stepsF (two A) unitF i j = if i = 0 then (if j = 0 then 5 else 1) else (if j = 0 then 1 else 0) := by
  have h5 : ival ⟨false, ⟨A, 1, 1, [5]⟩⟩ = 5 := by simp [ival, sgn, val]
  simp only [stepsF, two, List.foldl_cons, List.foldl_nil]
  rw [stepF_3 rfl, stepF_1 rfl]
  dsimp only
  rw [h5]
  rcases (show i = 0 ∨ i = 1 by omega) with rfl | rfl <;> rcases (show j = 0 ∨ j = 1 by omega) with rfl | rfl <;> rfl
theorem matrix_two (w : World) (b : Nat) (A5 : Option Addr) (hs : Sm 5 spc w.heap w.heap.size (some ⟨b, 0, none⟩) 2 2 (two A5)) (h5 : LI w.heap 5 ⟨false, ⟨A5, 1, 1, [5]⟩⟩) :
    Cl Try.prog 11 #[.int .i64 2, .slice (some ⟨b, 0, none⟩) 2 2] w (RetME w 2 2 (fun i j => if i = 0 then (if j = 0 then 5 else 1) else (if j = 0 then 1 else 0)) 4) := by
  refine Cl.mono (R := RetME w 2 2 (stepsF (two A5) unitF) (1 + wsum (two A5))) (smatrix_ok w 2 (by omega) (some ⟨b, 0, none⟩) 2 2 (two A5) hs (fun s h => ?_) (by omega) (show 1 + (0 + 1 + ((1 + 1) + 0)) ≤ 1099511627776 by omega) (two_fits A5)) ?_
  · simp only [two, List.mem_cons, List.not_mem_nil, or_false] at h
    rcases h with rfl | rfl
    · exact nought_gi _
    · exact h5.g
  · rintro e w' ⟨x, rfl, h1, h2, h3⟩
    exact ⟨x, rfl, h1.congrF (two_F A5), h2, h3⟩
set_option maxRecDepth 100000 in
set_option maxHeartbeats 800000 in
theorem awake_ok (w : World) : Cl Try.prog 7 #[] w (YesM w) := by
  refine enter Try.func7 rfl rfl rfl ?_
  have hF := Fr.refl w
  repeat' (first | (refine TL.isOp ?_; first | (refine TL.isG ?_; first | refine TL.grun rfl rfl rfl ?_ | refine TL.gskip rfl rfl rfl rfl ?_ | refine TL.gskipU rfl rfl rfl ?_) | (refine TL.isCall ?_; refine TL.call rfl rfl ?_; first | (refine (num_ok (n := 5) _ (by omega) (by omega)).mono ?_; rintro _ wz ⟨A5, rfl, hL, hE⟩; replace hF := Fr.addLI (hF.exts hE) hL; clear hE hL; refine Back.mk ?_) | (refine (matrix_two _ _ A5 (Fr.smG hF (by repeat (first | exact memH | apply memT))) (Fr.li hF (by repeat (first | exact memH | apply memT)))).mono ?_; rintro _ wu ⟨⟨ur, uc, uA, un, uk, ul⟩, rfl, hLu, hE, hf⟩; rw [mvc_mk _ _ uA]; replace hF := Fr.addLM hF hE hLu hf; clear hE hf hLu; refine Back.mk ?_)) | (refine TL.isBin ?_; refine TL.cmpG rfl rfl rfl rfl (fun hc => ?_) (fun hc => ?_) <;> (try (first | (exfalso; omega) | exact absurd rfl hc))) | (apply TL.ev; (case hd => rfl); (case h => (first | exact ev_simple rfl | (apply Ev.isBin; first | exact ev_arN rfl rfl rfl (by omega) | exact ev_arI rfl rfl rfl (by omega) | exact ev_eqlB (r := true) rfl rfl rfl | exact ev_eqlB (r := false) rfl rfl rfl | exact ev_neqB (r := true) rfl rfl rfl | exact ev_neqB (r := false) rfl rfl rfl) | (apply Ev.isLoad; first | exact ev_loadFr hF rfl (by refine ⟨?_, ?_⟩; (focus (repeat (first | exact InV.head | apply InV.tail))); rfl) | exact ev_loadAFr hF rfl (by refine ⟨?_, ?_⟩; (focus (repeat (first | exact InV.head | apply InV.tail))); rfl)) | exact ev_len rfl | exact ev_fieldAddr rfl | exact ev_field rfl rfl | exact ev_fieldA rfl rfl | exact ev_buildX rfl rfl | exact ev_makeFunc rfl | exact ev_nilCheck rfl | exact ev_neg rfl (by omega) | exact ev_cap rfl))) | (refine TL.storeAFr hF rfl rfl rfl rfl (by refine ⟨?_, ?_⟩; (focus (repeat (first | apply SetV.head | apply SetV.tail))); rfl) rfl ?_; clear hF; intro ws hF) | (refine TL.storeFr hF rfl rfl rfl rfl (by refine ⟨?_, ?_⟩; (focus (repeat (first | apply SetV.head | apply SetV.tail))); rfl) rfl ?_; clear hF; intro ws hF) | (refine TL.allocFr hF (d := 1) rfl rfl ?_; clear hF; intro w1 b1 hF) | (refine TL.buildXs hF (f := spc) (d := 7) (two A5) [.tmp 4, .tmp 6] rfl rfl rfl rfl (by intro u hu; rfl) rfl rfl (by omega) (by omega) ?_; intro w7 b7 hFn hEn hbn hSn; replace hF := Fr.addSmG hF hFn hbn hSn; clear hFn hEn hbn hSn) | (refine TL.boxAFr hF rfl rfl ?_; clear hF; intro wb bb hF) | (refine TL.boxFr hF rfl rfl ?_; clear hF; intro wb bb hF) | (refine TL.allocFr hF rfl rfl ?_; clear hF; intro wa ba hF)) | (refine T.is ?_; first | refine T.seqN 2 rfl ?_ | refine T.region ?_ | refine T.block ?_ | refine T.cond_t rfl ?_ | refine T.cond_f rfl ?_ | refine T.exit ?_ | refine T.ret ?_ | refine T.skip ?_ | refine T.regionQ mixed (by kernel_rfl) ?_) | (refine G.is ?_; first | refine G.next ?_ | refine G.blockN ?_ | refine G.blockE ?_ | refine G.blockE' rfl ?_ | refine G.blockR ?_ | refine G.thenE ?_ | refine G.thenR ?_ | refine G.only ?_) | refine TL.nil ?_ | (refine TL.nilFr hF ?_; clear hF; intro wq hF))
  have hone : True := trivial
  repeat' (first | (refine TL.isOp ?_; first | (refine TL.isG ?_; first | refine TL.grun rfl rfl rfl ?_ | refine TL.gskip rfl rfl rfl rfl ?_ | refine TL.gskipU rfl rfl rfl ?_) | (refine TL.isCall ?_; refine TL.call rfl rfl ?_; first | (refine (num_ok (n := 5) _ (by omega) (by omega)).mono ?_; rintro _ wz ⟨A15, rfl, hL, hE⟩; replace hF := Fr.addLI (hF.exts hE) hL; clear hE hL; refine Back.mk ?_) | (clear hone; refine (num_ok (n := 1) _ (by omega) (by omega)).mono ?_; rintro _ wz ⟨A16, rfl, hL, hE⟩; replace hF := Fr.addLI (hF.exts hE) hL; clear hE hL; refine Back.mk ?_) | (refine (num_ok (n := 1) _ (by omega) (by omega)).mono ?_; rintro _ wz ⟨A17, rfl, hL, hE⟩; replace hF := Fr.addLI (hF.exts hE) hL; clear hE hL; refine Back.mk ?_) | (refine (num_0 _).mono ?_; rintro _ wz ⟨rfl, hE⟩; replace hF := hF.exts hE; clear hE; refine Back.mk ?_) | (refine (likeMat_t _ ⟨ur, uc, uA, un, uk, ul⟩ ⟨2, 2, some ⟨b19, 0, none⟩, 4, 4, _⟩ 2 2 4 4 _ _ (Fr.lm hF (by repeat (first | exact memH | apply memT))) (lm_four (Fr.smG hF (f := ivc) (by repeat (first | exact memH | apply memT))) (Fr.li hF (by repeat (first | exact memH | apply memT))) (Fr.li hF (by repeat (first | exact memH | apply memT))) (Fr.li hF (by repeat (first | exact memH | apply memT))) (li_nought0 _) (by exact Nat.le_of_ble_eq_true rfl) (by exact Nat.le_of_ble_eq_true rfl) (by exact Nat.le_of_ble_eq_true rfl) (by exact Nat.le_of_ble_eq_true rfl)) (fun i j _ _ => rfl) (by omega) (by omega)).mono ?_; rintro _ wc ⟨rfl, hE⟩; replace hF := hF.exts hE; clear hE; refine Back.mk ?_)) | (refine TL.isBin ?_; refine TL.cmpG rfl rfl rfl rfl (fun hc => ?_) (fun hc => ?_) <;> (try (first | (exfalso; omega) | exact absurd rfl hc))) | (apply TL.ev; (case hd => rfl); (case h => (first | exact ev_simple rfl | (apply Ev.isBin; first | exact ev_arN rfl rfl rfl (by omega) | exact ev_arI rfl rfl rfl (by omega) | exact ev_eqlB (r := true) rfl rfl rfl | exact ev_eqlB (r := false) rfl rfl rfl | exact ev_neqB (r := true) rfl rfl rfl | exact ev_neqB (r := false) rfl rfl rfl) | (apply Ev.isLoad; first | exact ev_loadFr hF rfl (by refine ⟨?_, ?_⟩; (focus (repeat (first | exact InV.head | apply InV.tail))); rfl) | exact ev_loadAFr hF rfl (by refine ⟨?_, ?_⟩; (focus (repeat (first | exact InV.head | apply InV.tail))); rfl)) | exact ev_len rfl | exact ev_fieldAddr rfl | exact ev_field rfl rfl | exact ev_fieldA rfl rfl | exact ev_buildX rfl rfl | exact ev_makeFunc rfl | exact ev_nilCheck rfl | exact ev_neg rfl (by omega) | exact ev_cap rfl))) | (refine TL.storeAFr hF rfl rfl rfl rfl (by refine ⟨?_, ?_⟩; (focus (repeat (first | apply SetV.head | apply SetV.tail))); rfl) rfl ?_; clear hF; intro ws hF) | (refine TL.storeFr hF rfl rfl rfl rfl (by refine ⟨?_, ?_⟩; (focus (repeat (first | apply SetV.head | apply SetV.tail))); rfl) rfl ?_; clear hF; intro ws hF) | (refine TL.buildXs hF (f := ivc) (d := 19) [⟨false, ⟨A15, 1, 1, [5]⟩⟩, ⟨false, ⟨A16, 1, 1, [1]⟩⟩, ⟨false, ⟨A17, 1, 1, [1]⟩⟩, ⟨false, ⟨none, 0, 0, []⟩⟩] [.tmp 15, .tmp 16, .tmp 17, .tmp 18] rfl rfl rfl rfl (by intro u hu; rfl) rfl rfl (by omega) (by omega) ?_; intro w19 b19 hFn hEn hbn hSn; replace hF := Fr.addSmG hF hFn hbn hSn; clear hFn hEn hbn hSn) | (refine TL.boxAFr hF rfl rfl ?_; clear hF; intro wb bb hF) | (refine TL.boxFr hF rfl rfl ?_; clear hF; intro wb bb hF) | (refine TL.allocFr hF rfl rfl ?_; clear hF; intro wa ba hF)) | (refine TF.is ?_; first | refine TF.nil ?_ | refine TF.e rfl ?_ | refine TF.alt ?_ ?_ | (refine TF.pick rfl ?_; first | (refine TFo.cmpG rfl rfl rfl rfl (fun hc => ?_) (fun hc => ?_) <;> (try (first | (exfalso; omega) | exact absurd rfl hc))) | (refine TFo.cmpGg rfl rfl rfl rfl rfl rfl rfl (fun hc => ?_) (fun hc => ?_) <;> (try (first | (exfalso; omega) | exact absurd rfl hc))) | (apply TFo.ev; (case hd => rfl); (case h => (intro wh hF; first | exact ev_simple rfl | (apply Ev.isBin; first | exact ev_arN rfl rfl rfl (by omega) | exact ev_arI rfl rfl rfl (by omega) | exact ev_eqlB (r := true) rfl rfl rfl | exact ev_eqlB (r := false) rfl rfl rfl | exact ev_neqB (r := true) rfl rfl rfl | exact ev_neqB (r := false) rfl rfl rfl) | (apply Ev.isLoad; first | exact ev_loadFr hF rfl (by refine ⟨?_, ?_⟩; (focus (repeat (first | exact InV.head | apply InV.tail))); rfl) | exact ev_loadAFr hF rfl (by refine ⟨?_, ?_⟩; (focus (repeat (first | exact InV.head | apply InV.tail))); rfl)) | exact ev_len rfl | exact ev_fieldAddr rfl | exact ev_field rfl rfl | exact ev_fieldA rfl rfl | exact ev_buildX rfl rfl | exact ev_makeFunc rfl | exact ev_nilCheck rfl | exact ev_neg rfl (by omega) | exact ev_cap rfl))) | (apply TFo.evg rfl rfl rfl; (case hd => rfl); (case h => (intro wh hF; first | exact ev_simple rfl | (apply Ev.isBin; first | exact ev_arN rfl rfl rfl (by omega) | exact ev_arI rfl rfl rfl (by omega) | exact ev_eqlB (r := true) rfl rfl rfl | exact ev_eqlB (r := false) rfl rfl rfl | exact ev_neqB (r := true) rfl rfl rfl | exact ev_neqB (r := false) rfl rfl rfl) | (apply Ev.isLoad; first | exact ev_loadFr hF rfl (by refine ⟨?_, ?_⟩; (focus (repeat (first | exact InV.head | apply InV.tail))); rfl) | exact ev_loadAFr hF rfl (by refine ⟨?_, ?_⟩; (focus (repeat (first | exact InV.head | apply InV.tail))); rfl)) | exact ev_len rfl | exact ev_fieldAddr rfl | exact ev_field rfl rfl | exact ev_fieldA rfl rfl | exact ev_buildX rfl rfl | exact ev_makeFunc rfl | exact ev_nilCheck rfl | exact ev_neg rfl (by omega) | exact ev_cap rfl))) | refine TFo.skip rfl rfl rfl rfl ?_ | refine TFo.skipU rfl rfl rfl ?_)) | (refine T.is ?_; first | refine T.seq ?_ | refine T.region ?_ | refine T.block ?_ | refine T.cond_t rfl ?_ | refine T.cond_f rfl ?_ | refine T.exit ?_ | refine T.ret ?_ | refine T.skip ?_ | (refine T.regionFr hF 2 13 (.s 0 (.s 1 (.s 2 (.s 3 (.e 4 (.e 5 (.e 6 (.e 7 (.e 8 (.s 9 (.e 10 (.s 11 (.s 12 .nil))))))))))))) mixed (by kernel_rfl) ?_; clear hF; intro wr hF) | refine T.regionQ mixed (by kernel_rfl) ?_) | (refine G.is ?_; first | refine G.next ?_ | refine G.blockN ?_ | refine G.blockE ?_ | refine G.blockE' rfl ?_ | refine G.blockR ?_ | refine G.thenE ?_ | refine G.thenR ?_ | refine G.only ?_ | refine G.treeEnd rfl ?_ | refine G.tree rfl (by first | exact hF | exact hF.weak (by repeat (first | exact List.Sublist.refl _ | apply List.Sublist.cons)) (by repeat (first | exact allR | apply allT)) | exact hF.weak (by repeat (first | exact List.Sublist.refl _ | apply List.Sublist.cons)) (by repeat (first | exact allN | refine allH (by repeat (first | exact memH | apply memT)) ?_))) ?_) | refine TL.nil ?_ | (refine TL.nilFr hF ?_; clear hF; intro wq hF))
  all_goals exact G.ret1 rfl rfl ⟨rfl, hF.ext⟩
end Go.Proofs.Ytdhmhjbmkimplaa

namespace Go.Proofs.Ytdhmhjbmkimplaa
open Go Go.Eng Go.Proofs Go.NatM Go.RowKit

theorem mul_left (w : World) (u x : MV) (r c K Ku : Nat) (L : List SP) (fr : ∀ s ∈ L, fits r s) (hu : LM w.heap u r r (stepsF L unitF) Ku) (gx : GM w.heap x r c K) (hKu : Ku ≤ 8796093022000) (hK : K ≤ 8796093022000) :
    Cl Try.prog 12 #[.agg (mvc u).toArray, .agg (mvc x).toArray] w (RetME w r c (stepsF L (ent x c)) (Ku + K + r)) := by
  refine Cl.mono (mmul_ok w u x r r c Ku K hu.gm gx hKu hK) ?_
  rintro e w' ⟨z, rfl, h1, h2, h3⟩
  refine ⟨z, rfl, h1.congrF fun i j hi hj => ?_, h2, h3⟩
  rw [stepsF_prod (c := c) L (ent x c) fr i j hi hj]
  exact psum_congr fun q hq => by rw [hu.ent hi hq]
theorem mul_right (w : World) (x t : MV) (r c K Kt : Nat) (L : List SP) (fc : ∀ s ∈ L, fits c s) (ht : LM w.heap t c c (fun i j => stepsF L unitF j i) Kt) (gx : GM w.heap x r c K) (hKt : Kt ≤ 8796093022000) (hK : K ≤ 8796093022000) :
    Cl Try.prog 12 #[.agg (mvc x).toArray, .agg (mvc t).toArray] w (RetME w r c (fun i j => stepsF L (fun p q => ent x c q p) j i) (K + Kt + c)) := by
  refine Cl.mono (mmul_ok w x t r c c K Kt gx ht.gm hK hKt) ?_
  rintro e w' ⟨z, rfl, h1, h2, h3⟩
  refine ⟨z, rfl, h1.congrF fun i j hi hj => ?_, h2, h3⟩
  rw [stepsF_prod (c := r) L (fun p q => ent x c q p) fc j i hj hi]
  exact psum_congr fun q hq => by rw [ht.ent hq hj, Int.mul_comm]
theorem turn_steps (w : World) (v : MV) (c Kv : Nat) (F : Nat → Nat → Int) (hv : LM w.heap v c c F Kv) (hKv : Kv ≤ 8796093022000) :
    Cl Try.prog 14 #[.agg (mvc v).toArray] w (RetME w c c (fun i j => F j i) Kv) := by
  refine Cl.mono (mturn_ok w v c c Kv hv.gm (by omega)) ?_
  rintro e w' ⟨z, rfl, h1, h2, h3⟩
  exact ⟨z, rfl, h1.congrF fun i j hi hj => hv.ent hj hi, h2, h3⟩
set_option maxRecDepth 100000 in
set_option maxHeartbeats 4000000 in
theorem sp_bad (w : World) (x : MV) (hx : InR x) (hn : ¬ ∃ r c, Sound x r c) (A : Option Addr) (m k : Nat) : Cl Try.prog 3 #[.agg (mvc x).toArray, .slice A m k] w (YesM w) := by
  have hck := fun w1 (hE : Ext w w1) => rchk_bad w1 x (fun r c h => hn ⟨r, c, h⟩)
  have hro := fun w1 (hE : Ext w w1) => srows_bad w1 x hx hn A m k
  have hco := fun w1 (hE : Ext w w1) => scols_bad w1 x hx hn A m k
  have haw := fun w1 (hE : Ext w w1) => awake_ok w1
  clear hn hx
  obtain ⟨xr, xc, A1, n1, k1, l1⟩ := x
  refine enter Try.func3 rfl rfl rfl ?_
  have hF := Fr.refl w
  repeat' (first | (refine TL.isOp ?_; first | (refine TL.isG ?_; first | refine TL.grun rfl rfl rfl ?_ | refine TL.gskip rfl rfl rfl rfl ?_ | refine TL.gskipU rfl rfl rfl ?_) | (refine TL.isCall ?_; refine TL.call rfl rfl ?_; first | (refine (haw _ hF.ext).mono ?_; rintro _ wc ⟨rfl, hE⟩; replace hF := hF.exts hE; clear hE; refine Back.mk ?_) | (refine (hck _ hF.ext).mono ?_; rintro _ wc ⟨rfl, hE⟩; replace hF := hF.exts hE; clear hE; refine Back.mk ?_) | (refine (hro _ hF.ext).mono ?_; rintro _ wc ⟨rfl, hE⟩; replace hF := hF.exts hE; clear hE; refine Back.mk ?_) | (refine (hco _ hF.ext).mono ?_; rintro _ wc ⟨rfl, hE⟩; replace hF := hF.exts hE; clear hE; refine Back.mk ?_)) | (refine TL.isBin ?_; refine TL.cmpG rfl rfl rfl rfl (fun hc => ?_) (fun hc => ?_) <;> (try (first | (exfalso; omega) | exact absurd rfl hc))) | (apply TL.ev; (case hd => rfl); (case h => (first | exact ev_simple rfl | (apply Ev.isBin; first | exact ev_arN rfl rfl rfl (by omega) | exact ev_arI rfl rfl rfl (by omega) | exact ev_eqlB (r := true) rfl rfl rfl | exact ev_eqlB (r := false) rfl rfl rfl | exact ev_neqB (r := true) rfl rfl rfl | exact ev_neqB (r := false) rfl rfl rfl) | (apply Ev.isLoad; first | exact ev_loadFr hF rfl (by refine ⟨?_, ?_⟩; (focus (repeat (first | exact InV.head | apply InV.tail))); rfl) | exact ev_loadAFr hF rfl (by refine ⟨?_, ?_⟩; (focus (repeat (first | exact InV.head | apply InV.tail))); rfl)) | exact ev_len rfl | exact ev_fieldAddr rfl | exact ev_field rfl rfl | exact ev_fieldA rfl rfl | exact ev_buildX rfl rfl | exact ev_makeFunc rfl | exact ev_nilCheck rfl | exact ev_neg rfl (by omega) | exact ev_cap rfl))) | (refine TL.storeAFr hF rfl rfl rfl rfl (by refine ⟨?_, ?_⟩; (focus (repeat (first | apply SetV.head | apply SetV.tail))); rfl) rfl ?_; clear hF; intro ws hF) | (refine TL.storeFr hF rfl rfl rfl rfl (by refine ⟨?_, ?_⟩; (focus (repeat (first | apply SetV.head | apply SetV.tail))); rfl) rfl ?_; clear hF; intro ws hF) | (refine TL.boxAFr hF (d := 2) (cs := [.int .i64 xr, .int .i64 xc, .slice A1 n1 k1]) rfl rfl ?_; clear hF; intro w2 b2 hF) | (refine TL.allocFr hF (d := 5) rfl rfl ?_; clear hF; intro w5 b5 hF) | (refine TL.allocFr hF (d := 7) rfl rfl ?_; clear hF; intro w7 b7 hF) | (refine TL.boxAFr hF rfl rfl ?_; clear hF; intro wb bb hF) | (refine TL.boxFr hF rfl rfl ?_; clear hF; intro wb bb hF) | (refine TL.allocFr hF rfl rfl ?_; clear hF; intro wa ba hF)) | (refine T.is ?_; first | refine T.seq ?_ | refine T.region ?_ | refine T.block ?_ | refine T.cond_t rfl ?_ | refine T.cond_f rfl ?_ | refine T.exit ?_ | refine T.ret ?_ | refine T.skip ?_ | refine T.regionQ mixed (by kernel_rfl) ?_) | (refine G.is ?_; first | refine G.next ?_ | refine G.blockN ?_ | refine G.blockE ?_ | refine G.blockE' rfl ?_ | refine G.blockR ?_ | refine G.thenE ?_ | refine G.thenR ?_ | refine G.only ?_) | refine TL.nil ?_ | (refine TL.nilFr hF ?_; clear hF; intro wq hF))
  all_goals exact G.ret1 rfl rfl ⟨rfl, hF.ext⟩
set_option maxRecDepth 100000 in
set_option maxHeartbeats 4000000 in
theorem sp_tt (w : World) (x : MV) (r c : Nat) (gx : GM w.heap x r c 1048576) (A : Option Addr) (m k : Nat) (L : List SP) (hs : Sm 5 spc w.heap w.heap.size A m k L) (hg : ∀ s ∈ L, GI w.heap s.k) (hm : m ≤ 1048576) (hK : wsum L ≤ 1048576) (fr : ∀ s ∈ L, fits r s) (fc : ∀ s ∈ L, fits c s) :
    Cl Try.prog 3 #[.agg (mvc x).toArray, .slice A m k] w (YesM w) := by
  have r64 := gx.sh.r64
  have c64 := gx.sh.c64
  have haw := fun w1 (hE : Ext w w1) => awake_ok w1
  have hck := fun w1 (hE : Ext w w1) => rchk_ok w1 x r c gx.sh
  have hmr := fun w1 (hE : Ext w w1) => smatrix_ok w1 r r64 A m k L (hs.ext hE).size (fun s h => (hg s h).ext hE) hm (by omega) fr
  have hra := fun w1 (hE : Ext w w1) => srows_ok w1 x r c 1048576 (gx.ext hE) A m k L (hs.ext hE).size (fun s h => (hg s h).ext hE) hm (by omega) fr
  have hmu := fun w1 (hE : Ext w w1) u hu => mul_left w1 u x r c 1048576 (1 + wsum L) L fr hu (gx.ext hE) (by omega) (by omega)
  have he1 := fun w1 (hE : Ext w w1) y z hy hz => equal_t w1 y z r c (1048576 + wsum L) (1 + wsum L + 1048576 + r) (stepsF L (ent x c)) (stepsF L (ent x c)) hy hz (fun i j _ _ => rfl) (by omega) (by omega)
  have hmc := fun w1 (hE : Ext w w1) => smatrix_ok w1 c c64 A m k L (hs.ext hE).size (fun s h => (hg s h).ext hE) hm (by omega) fc
  have hca := fun w1 (hE : Ext w w1) => scols_ok w1 x r c 1048576 (gx.ext hE) A m k L (hs.ext hE).size (fun s h => (hg s h).ext hE) hm (by omega) fc
  have htu := fun w1 (hE : Ext w w1) v hv => turn_steps w1 v c (1 + wsum L) (stepsF L unitF) hv (by omega)
  have hma := fun w1 (hE : Ext w w1) t ht => mul_right w1 x t r c 1048576 (1 + wsum L) L fc ht (gx.ext hE) (by omega) (by omega)
  have he2 := fun w1 (hE : Ext w w1) y z hy hz => equal_t w1 y z r c (1048576 + wsum L) (1048576 + (1 + wsum L) + c) (fun i j => stepsF L (fun p q => ent x c q p) j i) (fun i j => stepsF L (fun p q => ent x c q p) j i) hy hz (fun i j _ _ => rfl) (by omega) (by omega)
  have e1 := gx.sh.er
  have e2 := gx.sh.ec
  clear gx hs hg
  generalize ent x c = E at *
  obtain ⟨xr, xc, A1, n1, k1, l1⟩ := x
  dsimp only at e1 e2
  subst e1 e2
  generalize stepsF L unitF = U at *
  refine enter Try.func3 rfl rfl rfl ?_
  have hF := Fr.refl w
  repeat' (first | (refine TL.isOp ?_; first | (refine TL.isG ?_; first | refine TL.grun rfl rfl rfl ?_ | refine TL.gskip rfl rfl rfl rfl ?_ | refine TL.gskipU rfl rfl rfl ?_) | (refine TL.isCall ?_; refine TL.call rfl rfl ?_; first | (refine (haw _ hF.ext).mono ?_; rintro _ wc ⟨rfl, hE⟩; replace hF := hF.exts hE; clear hE; refine Back.mk ?_) | (refine (hck _ hF.ext).mono ?_; rintro _ wc ⟨rfl, hE⟩; replace hF := hF.exts hE; clear hE; refine Back.mk ?_) | (refine (hmr _ hF.ext).mono ?_; rintro _ wu ⟨⟨ur, uc, uA, un, uk, ul⟩, rfl, hLu, hE, hf⟩; rw [mvc_mk _ _ uA]; replace hF := Fr.addLM hF hE hLu hf; clear hE hf hLu; refine Back.mk ?_) | (refine (hra _ hF.ext).mono ?_; rintro _ wb ⟨⟨br, bc, bA, bn, bk, bl⟩, rfl, hLu, hE, hf⟩; rw [mvc_mk _ _ bA]; replace hF := Fr.addLM hF hE hLu hf; clear hE hf hLu; refine Back.mk ?_) | (refine (hmu _ hF.ext ⟨ur, uc, uA, un, uk, ul⟩ (Fr.lm hF (by repeat (first | exact memH | apply memT)))).mono ?_; rintro _ wp ⟨⟨pr, pc, pA, pn, pk, pl⟩, rfl, hLu, hE, hf⟩; rw [mvc_mk _ _ pA]; replace hF := Fr.addLM hF hE hLu hf; clear hE hf hLu; refine Back.mk ?_) | (refine (he1 _ hF.ext ⟨br, bc, bA, bn, bk, bl⟩ ⟨pr, pc, pA, pn, pk, pl⟩ (Fr.lm hF (by repeat (first | exact memH | apply memT))) (Fr.lm hF (by repeat (first | exact memH | apply memT)))).mono ?_; rintro _ wc ⟨rfl, hE⟩; replace hF := hF.exts hE; clear hE; refine Back.mk ?_) | (refine (hmc _ hF.ext).mono ?_; rintro _ wv ⟨⟨vr, vc, vA, vn, vk, vl⟩, rfl, hLu, hE, hf⟩; rw [mvc_mk _ _ vA]; replace hF := Fr.addLM hF hE hLu hf; clear hE hf hLu; refine Back.mk ?_) | (refine (hca _ hF.ext).mono ?_; rintro _ wd ⟨⟨dr, dc, dA, dn, dk, dl⟩, rfl, hLu, hE, hf⟩; rw [mvc_mk _ _ dA]; replace hF := Fr.addLM hF hE hLu hf; clear hE hf hLu; refine Back.mk ?_) | (refine (htu _ hF.ext ⟨vr, vc, vA, vn, vk, vl⟩ (Fr.lm hF (by repeat (first | exact memH | apply memT)))).mono ?_; rintro _ wt ⟨⟨tr, tc, tA, tn, tk, tl⟩, rfl, hLu, hE, hf⟩; rw [mvc_mk _ _ tA]; replace hF := Fr.addLM hF hE hLu hf; clear hE hf hLu; refine Back.mk ?_) | (refine (hma _ hF.ext ⟨tr, tc, tA, tn, tk, tl⟩ (Fr.lm hF (by repeat (first | exact memH | apply memT)))).mono ?_; rintro _ wq ⟨⟨qr, qc, qA, qn, qk, ql⟩, rfl, hLu, hE, hf⟩; rw [mvc_mk _ _ qA]; replace hF := Fr.addLM hF hE hLu hf; clear hE hf hLu; refine Back.mk ?_) | (refine (he2 _ hF.ext ⟨dr, dc, dA, dn, dk, dl⟩ ⟨qr, qc, qA, qn, qk, ql⟩ (Fr.lm hF (by repeat (first | exact memH | apply memT))) (Fr.lm hF (by repeat (first | exact memH | apply memT)))).mono ?_; rintro _ wc ⟨rfl, hE⟩; replace hF := hF.exts hE; clear hE; refine Back.mk ?_)) | (refine TL.isBin ?_; refine TL.cmpG rfl rfl rfl rfl (fun hc => ?_) (fun hc => ?_) <;> (try (first | (exfalso; omega) | exact absurd rfl hc))) | (apply TL.ev; (case hd => rfl); (case h => (first | exact ev_simple rfl | (apply Ev.isBin; first | exact ev_arN rfl rfl rfl (by omega) | exact ev_arI rfl rfl rfl (by omega) | exact ev_eqlB (r := true) rfl rfl rfl | exact ev_eqlB (r := false) rfl rfl rfl | exact ev_neqB (r := true) rfl rfl rfl | exact ev_neqB (r := false) rfl rfl rfl) | (apply Ev.isLoad; first | exact ev_loadFr hF rfl (by refine ⟨?_, ?_⟩; (focus (repeat (first | exact InV.head | apply InV.tail))); rfl) | exact ev_loadAFr hF rfl (by refine ⟨?_, ?_⟩; (focus (repeat (first | exact InV.head | apply InV.tail))); rfl)) | exact ev_len rfl | exact ev_fieldAddr rfl | exact ev_field rfl rfl | exact ev_fieldA rfl rfl | exact ev_buildX rfl rfl | exact ev_makeFunc rfl | exact ev_nilCheck rfl | exact ev_neg rfl (by omega) | exact ev_cap rfl))) | (refine TL.storeAFr hF rfl rfl rfl rfl (by refine ⟨?_, ?_⟩; (focus (repeat (first | apply SetV.head | apply SetV.tail))); rfl) rfl ?_; clear hF; intro ws hF) | (refine TL.storeFr hF rfl rfl rfl rfl (by refine ⟨?_, ?_⟩; (focus (repeat (first | apply SetV.head | apply SetV.tail))); rfl) rfl ?_; clear hF; intro ws hF) | (refine TL.boxAFr hF (d := 2) (cs := [.int .i64 (r : Int), .int .i64 (c : Int), .slice A1 n1 k1]) rfl rfl ?_; clear hF; intro w2 b2 hF) | (refine TL.allocFr hF (d := 5) rfl rfl ?_; clear hF; intro w5 b5 hF) | (refine TL.allocFr hF (d := 7) rfl rfl ?_; clear hF; intro w7 b7 hF) | (refine TL.allocFr hF (d := 9) rfl rfl ?_; clear hF; intro w9 b9 hF) | (refine TL.allocFr hF (d := 11) rfl rfl ?_; clear hF; intro w11 b11 hF) | (refine TL.allocFr hF (d := 13) rfl rfl ?_; clear hF; intro w13 b13 hF) | (refine TL.allocFr hF (d := 15) rfl rfl ?_; clear hF; intro w15 b15 hF) | (refine TL.allocFr hF (d := 17) rfl rfl ?_; clear hF; intro w17 b17 hF) | (refine TL.allocFr hF (d := 19) rfl rfl ?_; clear hF; intro w19 b19 hF) | (refine TL.allocFr hF (d := 21) rfl rfl ?_; clear hF; intro w21 b21 hF) | (refine TL.boxAFr hF rfl rfl ?_; clear hF; intro wb bb hF) | (refine TL.boxFr hF rfl rfl ?_; clear hF; intro wb bb hF) | (refine TL.allocFr hF rfl rfl ?_; clear hF; intro wa ba hF)) | (refine T.is ?_; first | refine T.seq ?_ | refine T.region ?_ | refine T.block ?_ | refine T.cond_t rfl ?_ | refine T.cond_f rfl ?_ | refine T.exit ?_ | refine T.ret ?_ | refine T.skip ?_ | refine T.regionQ mixed (by kernel_rfl) ?_) | (refine G.is ?_; first | refine G.next ?_ | refine G.blockN ?_ | refine G.blockE ?_ | refine G.blockE' rfl ?_ | refine G.blockR ?_ | refine G.thenE ?_ | refine G.thenR ?_ | refine G.only ?_) | refine TL.nil ?_ | (refine TL.nilFr hF ?_; clear hF; intro wq hF))
  all_goals exact G.ret1 rfl rfl ⟨rfl, hF.ext⟩
set_option maxRecDepth 100000 in
set_option maxHeartbeats 4000000 in
theorem sp_tf (w : World) (x : MV) (r c : Nat) (gx : GM w.heap x r c 1048576) (A : Option Addr) (m k : Nat) (L : List SP) (hs : Sm 5 spc w.heap w.heap.size A m k L) (hg : ∀ s ∈ L, GI w.heap s.k) (hm : m ≤ 1048576) (hK : wsum L ≤ 1048576) (fr : ∀ s ∈ L, fits r s) (fc : ¬ ∀ s ∈ L, fits c s) :
    Cl Try.prog 3 #[.agg (mvc x).toArray, .slice A m k] w (YesM w) := by
  have r64 := gx.sh.r64
  have c64 := gx.sh.c64
  have haw := fun w1 (hE : Ext w w1) => awake_ok w1
  have hck := fun w1 (hE : Ext w w1) => rchk_ok w1 x r c gx.sh
  have hmr := fun w1 (hE : Ext w w1) => smatrix_ok w1 r r64 A m k L (hs.ext hE).size (fun s h => (hg s h).ext hE) hm (by omega) fr
  have hra := fun w1 (hE : Ext w w1) => srows_ok w1 x r c 1048576 (gx.ext hE) A m k L (hs.ext hE).size (fun s h => (hg s h).ext hE) hm (by omega) fr
  have hmu := fun w1 (hE : Ext w w1) u hu => mul_left w1 u x r c 1048576 (1 + wsum L) L fr hu (gx.ext hE) (by omega) (by omega)
  have he1 := fun w1 (hE : Ext w w1) y z hy hz => equal_t w1 y z r c (1048576 + wsum L) (1 + wsum L + 1048576 + r) (stepsF L (ent x c)) (stepsF L (ent x c)) hy hz (fun i j _ _ => rfl) (by omega) (by omega)
  have hmc := fun w1 (hE : Ext w w1) => smatrix_unfit w1 c c64 A m k L (hs.ext hE).size (fun s h => (hg s h).ext hE) hm (by omega) fc
  have hca := fun w1 (hE : Ext w w1) => scols_unfit w1 x r c 1048576 (gx.ext hE) A m k L (hs.ext hE).size (fun s h => (hg s h).ext hE) hm (by omega) fc
  have e1 := gx.sh.er
  have e2 := gx.sh.ec
  clear gx hs hg
  generalize ent x c = E at *
  obtain ⟨xr, xc, A1, n1, k1, l1⟩ := x
  dsimp only at e1 e2
  subst e1 e2
  generalize stepsF L unitF = U at *
  refine enter Try.func3 rfl rfl rfl ?_
  have hF := Fr.refl w
  repeat' (first | (refine TL.isOp ?_; first | (refine TL.isG ?_; first | refine TL.grun rfl rfl rfl ?_ | refine TL.gskip rfl rfl rfl rfl ?_ | refine TL.gskipU rfl rfl rfl ?_) | (refine TL.isCall ?_; refine TL.call rfl rfl ?_; first | (refine (haw _ hF.ext).mono ?_; rintro _ wc ⟨rfl, hE⟩; replace hF := hF.exts hE; clear hE; refine Back.mk ?_) | (refine (hck _ hF.ext).mono ?_; rintro _ wc ⟨rfl, hE⟩; replace hF := hF.exts hE; clear hE; refine Back.mk ?_) | (refine (hmr _ hF.ext).mono ?_; rintro _ wu ⟨⟨ur, uc, uA, un, uk, ul⟩, rfl, hLu, hE, hf⟩; rw [mvc_mk _ _ uA]; replace hF := Fr.addLM hF hE hLu hf; clear hE hf hLu; refine Back.mk ?_) | (refine (hra _ hF.ext).mono ?_; rintro _ wb ⟨⟨br, bc, bA, bn, bk, bl⟩, rfl, hLu, hE, hf⟩; rw [mvc_mk _ _ bA]; replace hF := Fr.addLM hF hE hLu hf; clear hE hf hLu; refine Back.mk ?_) | (refine (hmu _ hF.ext ⟨ur, uc, uA, un, uk, ul⟩ (Fr.lm hF (by repeat (first | exact memH | apply memT)))).mono ?_; rintro _ wp ⟨⟨pr, pc, pA, pn, pk, pl⟩, rfl, hLu, hE, hf⟩; rw [mvc_mk _ _ pA]; replace hF := Fr.addLM hF hE hLu hf; clear hE hf hLu; refine Back.mk ?_) | (refine (he1 _ hF.ext ⟨br, bc, bA, bn, bk, bl⟩ ⟨pr, pc, pA, pn, pk, pl⟩ (Fr.lm hF (by repeat (first | exact memH | apply memT))) (Fr.lm hF (by repeat (first | exact memH | apply memT)))).mono ?_; rintro _ wc ⟨rfl, hE⟩; replace hF := hF.exts hE; clear hE; refine Back.mk ?_) | (refine (hmc _ hF.ext).mono ?_; rintro _ wc ⟨rfl, hE⟩; replace hF := hF.exts hE; clear hE; refine Back.mk ?_) | (refine (hca _ hF.ext).mono ?_; rintro _ wc ⟨rfl, hE⟩; replace hF := hF.exts hE; clear hE; refine Back.mk ?_)) | (refine TL.isBin ?_; refine TL.cmpG rfl rfl rfl rfl (fun hc => ?_) (fun hc => ?_) <;> (try (first | (exfalso; omega) | exact absurd rfl hc))) | (apply TL.ev; (case hd => rfl); (case h => (first | exact ev_simple rfl | (apply Ev.isBin; first | exact ev_arN rfl rfl rfl (by omega) | exact ev_arI rfl rfl rfl (by omega) | exact ev_eqlB (r := true) rfl rfl rfl | exact ev_eqlB (r := false) rfl rfl rfl | exact ev_neqB (r := true) rfl rfl rfl | exact ev_neqB (r := false) rfl rfl rfl) | (apply Ev.isLoad; first | exact ev_loadFr hF rfl (by refine ⟨?_, ?_⟩; (focus (repeat (first | exact InV.head | apply InV.tail))); rfl) | exact ev_loadAFr hF rfl (by refine ⟨?_, ?_⟩; (focus (repeat (first | exact InV.head | apply InV.tail))); rfl)) | exact ev_len rfl | exact ev_fieldAddr rfl | exact ev_field rfl rfl | exact ev_fieldA rfl rfl | exact ev_buildX rfl rfl | exact ev_makeFunc rfl | exact ev_nilCheck rfl | exact ev_neg rfl (by omega) | exact ev_cap rfl))) | (refine TL.storeAFr hF rfl rfl rfl rfl (by refine ⟨?_, ?_⟩; (focus (repeat (first | apply SetV.head | apply SetV.tail))); rfl) rfl ?_; clear hF; intro ws hF) | (refine TL.storeFr hF rfl rfl rfl rfl (by refine ⟨?_, ?_⟩; (focus (repeat (first | apply SetV.head | apply SetV.tail))); rfl) rfl ?_; clear hF; intro ws hF) | (refine TL.boxAFr hF (d := 2) (cs := [.int .i64 (r : Int), .int .i64 (c : Int), .slice A1 n1 k1]) rfl rfl ?_; clear hF; intro w2 b2 hF) | (refine TL.allocFr hF (d := 5) rfl rfl ?_; clear hF; intro w5 b5 hF) | (refine TL.allocFr hF (d := 7) rfl rfl ?_; clear hF; intro w7 b7 hF) | (refine TL.allocFr hF (d := 9) rfl rfl ?_; clear hF; intro w9 b9 hF) | (refine TL.allocFr hF (d := 11) rfl rfl ?_; clear hF; intro w11 b11 hF) | (refine TL.allocFr hF (d := 13) rfl rfl ?_; clear hF; intro w13 b13 hF) | (refine TL.allocFr hF (d := 15) rfl rfl ?_; clear hF; intro w15 b15 hF) | (refine TL.allocFr hF (d := 17) rfl rfl ?_; clear hF; intro w17 b17 hF) | (refine TL.allocFr hF (d := 19) rfl rfl ?_; clear hF; intro w19 b19 hF) | (refine TL.allocFr hF (d := 21) rfl rfl ?_; clear hF; intro w21 b21 hF) | (refine TL.boxAFr hF rfl rfl ?_; clear hF; intro wb bb hF) | (refine TL.boxFr hF rfl rfl ?_; clear hF; intro wb bb hF) | (refine TL.allocFr hF rfl rfl ?_; clear hF; intro wa ba hF)) | (refine T.is ?_; first | refine T.seq ?_ | refine T.region ?_ | refine T.block ?_ | refine T.cond_t rfl ?_ | refine T.cond_f rfl ?_ | refine T.exit ?_ | refine T.ret ?_ | refine T.skip ?_ | refine T.regionQ mixed (by kernel_rfl) ?_) | (refine G.is ?_; first | refine G.next ?_ | refine G.blockN ?_ | refine G.blockE ?_ | refine G.blockE' rfl ?_ | refine G.blockR ?_ | refine G.thenE ?_ | refine G.thenR ?_ | refine G.only ?_) | refine TL.nil ?_ | (refine TL.nilFr hF ?_; clear hF; intro wq hF))
  all_goals exact G.ret1 rfl rfl ⟨rfl, hF.ext⟩
set_option maxRecDepth 100000 in
set_option maxHeartbeats 4000000 in
theorem sp_ft (w : World) (x : MV) (r c : Nat) (gx : GM w.heap x r c 1048576) (A : Option Addr) (m k : Nat) (L : List SP) (hs : Sm 5 spc w.heap w.heap.size A m k L) (hg : ∀ s ∈ L, GI w.heap s.k) (hm : m ≤ 1048576) (hK : wsum L ≤ 1048576) (fr : ¬ ∀ s ∈ L, fits r s) (fc : ∀ s ∈ L, fits c s) :
    Cl Try.prog 3 #[.agg (mvc x).toArray, .slice A m k] w (YesM w) := by
  have r64 := gx.sh.r64
  have c64 := gx.sh.c64
  have haw := fun w1 (hE : Ext w w1) => awake_ok w1
  have hck := fun w1 (hE : Ext w w1) => rchk_ok w1 x r c gx.sh
  have hmr := fun w1 (hE : Ext w w1) => smatrix_unfit w1 r r64 A m k L (hs.ext hE).size (fun s h => (hg s h).ext hE) hm (by omega) fr
  have hra := fun w1 (hE : Ext w w1) => srows_unfit w1 x r c gx.sh A m k 1099511627776 L (hs.ext hE).size (fun s h => (hg s h).ext hE) (by omega) hm fr
  have hmc := fun w1 (hE : Ext w w1) => smatrix_ok w1 c c64 A m k L (hs.ext hE).size (fun s h => (hg s h).ext hE) hm (by omega) fc
  have hca := fun w1 (hE : Ext w w1) => scols_ok w1 x r c 1048576 (gx.ext hE) A m k L (hs.ext hE).size (fun s h => (hg s h).ext hE) hm (by omega) fc
  have htu := fun w1 (hE : Ext w w1) v hv => turn_steps w1 v c (1 + wsum L) (stepsF L unitF) hv (by omega)
  have hma := fun w1 (hE : Ext w w1) t ht => mul_right w1 x t r c 1048576 (1 + wsum L) L fc ht (gx.ext hE) (by omega) (by omega)
  have he2 := fun w1 (hE : Ext w w1) y z hy hz => equal_t w1 y z r c (1048576 + wsum L) (1048576 + (1 + wsum L) + c) (fun i j => stepsF L (fun p q => ent x c q p) j i) (fun i j => stepsF L (fun p q => ent x c q p) j i) hy hz (fun i j _ _ => rfl) (by omega) (by omega)
  have e1 := gx.sh.er
  have e2 := gx.sh.ec
  clear gx hs hg
  generalize ent x c = E at *
  obtain ⟨xr, xc, A1, n1, k1, l1⟩ := x
  dsimp only at e1 e2
  subst e1 e2
  generalize stepsF L unitF = U at *
  refine enter Try.func3 rfl rfl rfl ?_
  have hF := Fr.refl w
  repeat' (first | (refine TL.isOp ?_; first | (refine TL.isG ?_; first | refine TL.grun rfl rfl rfl ?_ | refine TL.gskip rfl rfl rfl rfl ?_ | refine TL.gskipU rfl rfl rfl ?_) | (refine TL.isCall ?_; refine TL.call rfl rfl ?_; first | (refine (haw _ hF.ext).mono ?_; rintro _ wc ⟨rfl, hE⟩; replace hF := hF.exts hE; clear hE; refine Back.mk ?_) | (refine (hck _ hF.ext).mono ?_; rintro _ wc ⟨rfl, hE⟩; replace hF := hF.exts hE; clear hE; refine Back.mk ?_) | (refine (hmr _ hF.ext).mono ?_; rintro _ wc ⟨rfl, hE⟩; replace hF := hF.exts hE; clear hE; refine Back.mk ?_) | (refine (hra _ hF.ext).mono ?_; rintro _ wc ⟨rfl, hE⟩; replace hF := hF.exts hE; clear hE; refine Back.mk ?_) | (refine (hmc _ hF.ext).mono ?_; rintro _ wv ⟨⟨vr, vc, vA, vn, vk, vl⟩, rfl, hLu, hE, hf⟩; rw [mvc_mk _ _ vA]; replace hF := Fr.addLM hF hE hLu hf; clear hE hf hLu; refine Back.mk ?_) | (refine (hca _ hF.ext).mono ?_; rintro _ wd ⟨⟨dr, dc, dA, dn, dk, dl⟩, rfl, hLu, hE, hf⟩; rw [mvc_mk _ _ dA]; replace hF := Fr.addLM hF hE hLu hf; clear hE hf hLu; refine Back.mk ?_) | (refine (htu _ hF.ext ⟨vr, vc, vA, vn, vk, vl⟩ (Fr.lm hF (by repeat (first | exact memH | apply memT)))).mono ?_; rintro _ wt ⟨⟨tr, tc, tA, tn, tk, tl⟩, rfl, hLu, hE, hf⟩; rw [mvc_mk _ _ tA]; replace hF := Fr.addLM hF hE hLu hf; clear hE hf hLu; refine Back.mk ?_) | (refine (hma _ hF.ext ⟨tr, tc, tA, tn, tk, tl⟩ (Fr.lm hF (by repeat (first | exact memH | apply memT)))).mono ?_; rintro _ wq ⟨⟨qr, qc, qA, qn, qk, ql⟩, rfl, hLu, hE, hf⟩; rw [mvc_mk _ _ qA]; replace hF := Fr.addLM hF hE hLu hf; clear hE hf hLu; refine Back.mk ?_) | (refine (he2 _ hF.ext ⟨dr, dc, dA, dn, dk, dl⟩ ⟨qr, qc, qA, qn, qk, ql⟩ (Fr.lm hF (by repeat (first | exact memH | apply memT))) (Fr.lm hF (by repeat (first | exact memH | apply memT)))).mono ?_; rintro _ wc ⟨rfl, hE⟩; replace hF := hF.exts hE; clear hE; refine Back.mk ?_)) | (refine TL.isBin ?_; refine TL.cmpG rfl rfl rfl rfl (fun hc => ?_) (fun hc => ?_) <;> (try (first | (exfalso; omega) | exact absurd rfl hc))) | (apply TL.ev; (case hd => rfl); (case h => (first | exact ev_simple rfl | (apply Ev.isBin; first | exact ev_arN rfl rfl rfl (by omega) | exact ev_arI rfl rfl rfl (by omega) | exact ev_eqlB (r := true) rfl rfl rfl | exact ev_eqlB (r := false) rfl rfl rfl | exact ev_neqB (r := true) rfl rfl rfl | exact ev_neqB (r := false) rfl rfl rfl) | (apply Ev.isLoad; first | exact ev_loadFr hF rfl (by refine ⟨?_, ?_⟩; (focus (repeat (first | exact InV.head | apply InV.tail))); rfl) | exact ev_loadAFr hF rfl (by refine ⟨?_, ?_⟩; (focus (repeat (first | exact InV.head | apply InV.tail))); rfl)) | exact ev_len rfl | exact ev_fieldAddr rfl | exact ev_field rfl rfl | exact ev_fieldA rfl rfl | exact ev_buildX rfl rfl | exact ev_makeFunc rfl | exact ev_nilCheck rfl | exact ev_neg rfl (by omega) | exact ev_cap rfl))) | (refine TL.storeAFr hF rfl rfl rfl rfl (by refine ⟨?_, ?_⟩; (focus (repeat (first | apply SetV.head | apply SetV.tail))); rfl) rfl ?_; clear hF; intro ws hF) | (refine TL.storeFr hF rfl rfl rfl rfl (by refine ⟨?_, ?_⟩; (focus (repeat (first | apply SetV.head | apply SetV.tail))); rfl) rfl ?_; clear hF; intro ws hF) | (refine TL.boxAFr hF (d := 2) (cs := [.int .i64 (r : Int), .int .i64 (c : Int), .slice A1 n1 k1]) rfl rfl ?_; clear hF; intro w2 b2 hF) | (refine TL.allocFr hF (d := 5) rfl rfl ?_; clear hF; intro w5 b5 hF) | (refine TL.allocFr hF (d := 7) rfl rfl ?_; clear hF; intro w7 b7 hF) | (refine TL.allocFr hF (d := 9) rfl rfl ?_; clear hF; intro w9 b9 hF) | (refine TL.allocFr hF (d := 11) rfl rfl ?_; clear hF; intro w11 b11 hF) | (refine TL.allocFr hF (d := 13) rfl rfl ?_; clear hF; intro w13 b13 hF) | (refine TL.allocFr hF (d := 15) rfl rfl ?_; clear hF; intro w15 b15 hF) | (refine TL.allocFr hF (d := 17) rfl rfl ?_; clear hF; intro w17 b17 hF) | (refine TL.allocFr hF (d := 19) rfl rfl ?_; clear hF; intro w19 b19 hF) | (refine TL.allocFr hF (d := 21) rfl rfl ?_; clear hF; intro w21 b21 hF) | (refine TL.boxAFr hF rfl rfl ?_; clear hF; intro wb bb hF) | (refine TL.boxFr hF rfl rfl ?_; clear hF; intro wb bb hF) | (refine TL.allocFr hF rfl rfl ?_; clear hF; intro wa ba hF)) | (refine T.is ?_; first | refine T.seq ?_ | refine T.region ?_ | refine T.block ?_ | refine T.cond_t rfl ?_ | refine T.cond_f rfl ?_ | refine T.exit ?_ | refine T.ret ?_ | refine T.skip ?_ | refine T.regionQ mixed (by kernel_rfl) ?_) | (refine G.is ?_; first | refine G.next ?_ | refine G.blockN ?_ | refine G.blockE ?_ | refine G.blockE' rfl ?_ | refine G.blockR ?_ | refine G.thenE ?_ | refine G.thenR ?_ | refine G.only ?_) | refine TL.nil ?_ | (refine TL.nilFr hF ?_; clear hF; intro wq hF))
  all_goals exact G.ret1 rfl rfl ⟨rfl, hF.ext⟩
set_option maxRecDepth 100000 in
set_option maxHeartbeats 4000000 in
theorem sp_ff (w : World) (x : MV) (r c : Nat) (gx : GM w.heap x r c 1048576) (A : Option Addr) (m k : Nat) (L : List SP) (hs : Sm 5 spc w.heap w.heap.size A m k L) (hg : ∀ s ∈ L, GI w.heap s.k) (hm : m ≤ 1048576) (hK : wsum L ≤ 1048576) (fr : ¬ ∀ s ∈ L, fits r s) (fc : ¬ ∀ s ∈ L, fits c s) :
    Cl Try.prog 3 #[.agg (mvc x).toArray, .slice A m k] w (YesM w) := by
  have r64 := gx.sh.r64
  have c64 := gx.sh.c64
  have haw := fun w1 (hE : Ext w w1) => awake_ok w1
  have hck := fun w1 (hE : Ext w w1) => rchk_ok w1 x r c gx.sh
  have hmr := fun w1 (hE : Ext w w1) => smatrix_unfit w1 r r64 A m k L (hs.ext hE).size (fun s h => (hg s h).ext hE) hm (by omega) fr
  have hra := fun w1 (hE : Ext w w1) => srows_unfit w1 x r c gx.sh A m k 1099511627776 L (hs.ext hE).size (fun s h => (hg s h).ext hE) (by omega) hm fr
  have hmc := fun w1 (hE : Ext w w1) => smatrix_unfit w1 c c64 A m k L (hs.ext hE).size (fun s h => (hg s h).ext hE) hm (by omega) fc
  have hca := fun w1 (hE : Ext w w1) => scols_unfit w1 x r c 1048576 (gx.ext hE) A m k L (hs.ext hE).size (fun s h => (hg s h).ext hE) hm (by omega) fc
  have e1 := gx.sh.er
  have e2 := gx.sh.ec
  clear gx hs hg
  generalize ent x c = E at *
  obtain ⟨xr, xc, A1, n1, k1, l1⟩ := x
  dsimp only at e1 e2
  subst e1 e2
  generalize stepsF L unitF = U at *
  refine enter Try.func3 rfl rfl rfl ?_
  have hF := Fr.refl w
  repeat' (first | (refine TL.isOp ?_; first | (refine TL.isG ?_; first | refine TL.grun rfl rfl rfl ?_ | refine TL.gskip rfl rfl rfl rfl ?_ | refine TL.gskipU rfl rfl rfl ?_) | (refine TL.isCall ?_; refine TL.call rfl rfl ?_; first | (refine (haw _ hF.ext).mono ?_; rintro _ wc ⟨rfl, hE⟩; replace hF := hF.exts hE; clear hE; refine Back.mk ?_) | (refine (hck _ hF.ext).mono ?_; rintro _ wc ⟨rfl, hE⟩; replace hF := hF.exts hE; clear hE; refine Back.mk ?_) | (refine (hmr _ hF.ext).mono ?_; rintro _ wc ⟨rfl, hE⟩; replace hF := hF.exts hE; clear hE; refine Back.mk ?_) | (refine (hra _ hF.ext).mono ?_; rintro _ wc ⟨rfl, hE⟩; replace hF := hF.exts hE; clear hE; refine Back.mk ?_) | (refine (hmc _ hF.ext).mono ?_; rintro _ wc ⟨rfl, hE⟩; replace hF := hF.exts hE; clear hE; refine Back.mk ?_) | (refine (hca _ hF.ext).mono ?_; rintro _ wc ⟨rfl, hE⟩; replace hF := hF.exts hE; clear hE; refine Back.mk ?_)) | (refine TL.isBin ?_; refine TL.cmpG rfl rfl rfl rfl (fun hc => ?_) (fun hc => ?_) <;> (try (first | (exfalso; omega) | exact absurd rfl hc))) | (apply TL.ev; (case hd => rfl); (case h => (first | exact ev_simple rfl | (apply Ev.isBin; first | exact ev_arN rfl rfl rfl (by omega) | exact ev_arI rfl rfl rfl (by omega) | exact ev_eqlB (r := true) rfl rfl rfl | exact ev_eqlB (r := false) rfl rfl rfl | exact ev_neqB (r := true) rfl rfl rfl | exact ev_neqB (r := false) rfl rfl rfl) | (apply Ev.isLoad; first | exact ev_loadFr hF rfl (by refine ⟨?_, ?_⟩; (focus (repeat (first | exact InV.head | apply InV.tail))); rfl) | exact ev_loadAFr hF rfl (by refine ⟨?_, ?_⟩; (focus (repeat (first | exact InV.head | apply InV.tail))); rfl)) | exact ev_len rfl | exact ev_fieldAddr rfl | exact ev_field rfl rfl | exact ev_fieldA rfl rfl | exact ev_buildX rfl rfl | exact ev_makeFunc rfl | exact ev_nilCheck rfl | exact ev_neg rfl (by omega) | exact ev_cap rfl))) | (refine TL.storeAFr hF rfl rfl rfl rfl (by refine ⟨?_, ?_⟩; (focus (repeat (first | apply SetV.head | apply SetV.tail))); rfl) rfl ?_; clear hF; intro ws hF) | (refine TL.storeFr hF rfl rfl rfl rfl (by refine ⟨?_, ?_⟩; (focus (repeat (first | apply SetV.head | apply SetV.tail))); rfl) rfl ?_; clear hF; intro ws hF) | (refine TL.boxAFr hF (d := 2) (cs := [.int .i64 (r : Int), .int .i64 (c : Int), .slice A1 n1 k1]) rfl rfl ?_; clear hF; intro w2 b2 hF) | (refine TL.allocFr hF (d := 5) rfl rfl ?_; clear hF; intro w5 b5 hF) | (refine TL.allocFr hF (d := 7) rfl rfl ?_; clear hF; intro w7 b7 hF) | (refine TL.allocFr hF (d := 9) rfl rfl ?_; clear hF; intro w9 b9 hF) | (refine TL.allocFr hF (d := 11) rfl rfl ?_; clear hF; intro w11 b11 hF) | (refine TL.allocFr hF (d := 13) rfl rfl ?_; clear hF; intro w13 b13 hF) | (refine TL.allocFr hF (d := 15) rfl rfl ?_; clear hF; intro w15 b15 hF) | (refine TL.allocFr hF (d := 17) rfl rfl ?_; clear hF; intro w17 b17 hF) | (refine TL.allocFr hF (d := 19) rfl rfl ?_; clear hF; intro w19 b19 hF) | (refine TL.allocFr hF (d := 21) rfl rfl ?_; clear hF; intro w21 b21 hF) | (refine TL.boxAFr hF rfl rfl ?_; clear hF; intro wb bb hF) | (refine TL.boxFr hF rfl rfl ?_; clear hF; intro wb bb hF) | (refine TL.allocFr hF rfl rfl ?_; clear hF; intro wa ba hF)) | (refine T.is ?_; first | refine T.seq ?_ | refine T.region ?_ | refine T.block ?_ | refine T.cond_t rfl ?_ | refine T.cond_f rfl ?_ | refine T.exit ?_ | refine T.ret ?_ | refine T.skip ?_ | refine T.regionQ mixed (by kernel_rfl) ?_) | (refine G.is ?_; first | refine G.next ?_ | refine G.blockN ?_ | refine G.blockE ?_ | refine G.blockE' rfl ?_ | refine G.blockR ?_ | refine G.thenE ?_ | refine G.thenR ?_ | refine G.only ?_) | refine TL.nil ?_ | (refine TL.nilFr hF ?_; clear hF; intro wq hF))
  all_goals exact G.ret1 rfl rfl ⟨rfl, hF.ext⟩
theorem products_ok (w : World) (x : MV) (hx : RM w.heap x 1048576 ∧ InR x) (A : Option Addr) (m k : Nat) (L : List SP) (hs : Sm 5 spc w.heap w.heap.size A m k L) (hg : ∀ s ∈ L, GI w.heap s.k) (hb : wsum L ≤ 1048576 ∧ m ≤ 1048576) :
    Cl Try.prog 3 #[.agg (mvc x).toArray, .slice A m k] w (YesM w) := by
  by_cases h : ∃ r c, Sound x r c
  · obtain ⟨r, c, h⟩ := h
    have gx := hx.1.gm h
    by_cases fr : ∀ s ∈ L, fits r s
    · by_cases fc : ∀ s ∈ L, fits c s
      · exact sp_tt w x r c gx A m k L hs hg hb.2 hb.1 fr fc
      · exact sp_tf w x r c gx A m k L hs hg hb.2 hb.1 fr fc
    · by_cases fc : ∀ s ∈ L, fits c s
      · exact sp_ft w x r c gx A m k L hs hg hb.2 hb.1 fr fc
      · exact sp_ff w x r c gx A m k L hs hg hb.2 hb.1 fr fc
  · exact sp_bad w x hx.2 h A m k
end Go.Proofs.Ytdhmhjbmkimplaa

namespace Go.Proofs.Ytdhmhjbmkimplaa
open Go Go.Eng Go.Proofs Go.NatM Go.ChangeShapes Go.WideShapes Go.ChangeAt Go.RowKit

theorem spot_none {w : World} {a : Addr} {v : Value} (h : w.cell? a = some v) : a = ⟨a.block, a.off, none⟩ := by
  cases a with
  | mk b o s =>
    cases s with
    | none => rfl
    | some s => unfold World.cell? at h; split at h <;> simp at h
theorem getD_map_toNat (zs : List Int) (hz : ∀ z ∈ zs, 0 ≤ z) (j : Nat) (hj : j < zs.length) : ((zs.map Int.toNat)[j]?).map (fun x : Nat => (x : Int)) = some (zs.getD j 0) := by
  simp [List.getD, hj, Int.toNat_of_nonneg (hz _ (List.getElem_mem hj))]
end Go.Proofs.Ytdhmhjbmkimplaa

namespace Go.Proofs.Ytdhmhjbmkimplaa
open Go Go.Eng Go.Proofs Go.NatM

theorem bulk_one {H : Type} (d : DataW H) : 1 ≤ Rows.uptoBulk d := by
  cases d with
  | lit l => cases l <;> simp [Rows.uptoBulk]
  | nil => simp [Rows.uptoBulk]
  | ptr d => simp [Rows.uptoBulk]
  | slice elems spare => simp [Rows.uptoBulk]
  | agg parts => simp [Rows.uptoBulk]
  | iface t d => simp [Rows.uptoBulk]
  | map entries => simp [Rows.uptoBulk]
  | held h => simp [Rows.uptoBulk]
theorem bulk_part {H : Type} {d : DataW H} {l : List (DataW H)} (h : d ∈ l) : Rows.uptoBulk d ≤ Rows.uptoBulkAll l := by
  induction l with
  | nil => cases h
  | cons x r ih =>
    simp only [Rows.uptoBulkAll]
    cases List.mem_cons.1 h with
    | inl e => subst e; omega
    | inr e => have := ih e; omega
theorem bulk_length {H : Type} (l : List (DataW H)) : l.length ≤ Rows.uptoBulkAll l := by
  induction l with
  | nil => simp [Rows.uptoBulkAll]
  | cons x r ih => have := bulk_one x; simp only [Rows.uptoBulkAll, List.length_cons]; omega
theorem small_all {H : Type} {ds gs : List (DataW H)} (h : Rows.uptoSmall H (ds ++ gs) = true) : Rows.uptoBulkAll (ds ++ gs) ≤ 1048576 := of_decide_eq_true h
theorem small_part {H : Type} {ds gs : List (DataW H)} (h : Rows.uptoSmall H (ds ++ gs) = true) {j : Nat} {d : DataW H} (hd : (ds ++ gs)[j]? = some d) : Rows.uptoBulk d ≤ 1048576 := by
  have h1 := small_all h
  have h2 := bulk_part (List.mem_of_getElem? hd)
  omega
end Go.Proofs.Ytdhmhjbmkimplaa

namespace Go.Proofs.Ytdhmhjbmkimplaa
open Go Go.Eng Go.Proofs Go.NatM

end Go.Proofs.Ytdhmhjbmkimplaa

namespace Go.Proofs.Ytdhmhjbmkimplaa
open Go Go.Eng Go.Proofs Go.NatM

end Go.Proofs.Ytdhmhjbmkimplaa

namespace Go.Proofs.Ytdhmhjbmkimplaa
open Go Go.Eng Go.Proofs Go.NatM

/-- the words of each -/
def LS (H : Array Obj) (B : Nat) (L : List (SA Nat)) : Prop := ∀ x ∈ L, Sl u64v H B x.A x.n x.c x.l ∧ U64 x.l
theorem LS.ext {w w' : World} {B : Nat} {L : List (SA Nat)} (hb : Ext w w') (h : LS w.heap B L) : LS w'.heap B L := fun x hx => ⟨(h x hx).1.ext hb, (h x hx).2⟩
theorem LS.take {H : Array Obj} {B : Nat} {L : List (SA Nat)} (h : LS H B L) (k : Nat) : LS H B (L.take k) := fun x hx => h x (List.mem_of_mem_take hx)
theorem LS.drop {H : Array Obj} {B : Nat} {L : List (SA Nat)} (h : LS H B L) (k : Nat) : LS H B (L.drop k) := fun x hx => h x (List.mem_of_mem_drop hx)
end Go.Proofs.Ytdhmhjbmkimplaa

namespace Go.Proofs.Ytdhmhjbmkimplaa
open Go Go.Eng Go.Proofs Go.NatM Go.ChangeShapes Go.WideShapes Go.ChangeAt Go.RowKit Go.Deep

/-- a slice of words, by its cells -/
theorem open_u64c {H : Type} {enc : TypeId × Value → H} {P : Program} {t e : TypeId} {W : World} {base : Nat} {spare : Nat → Bool} {held : Bool} {v : Value} {d : DataW H} {ps : List MemPlace} {fuel : Nat}
    (ht : P.underlying t = some (.slice e)) (he : P.underlying e = some (.int .u64)) (hc : P.cellsOf e = 1) (hf : DataW.trod enc P W base spare held fuel t [v] = some (d, ps)) :
    ∃ x : SA Nat, v = sav x ∧ Sl u64v W.heap W.heap.size x.A x.n x.c x.l ∧ U64 x.l ∧ x.n + 1 ≤ Rows.uptoBulk d := by
  rcases open_ints ht he hc hf with ⟨hcs, hx⟩ | ⟨a, len, cap, zs, hcs, hb, hl, hm, hz, hx, hcell, hwz⟩
  · cases hcs
    cases hx
    exact ⟨⟨none, 0, 0, []⟩, rfl, Sl.nil _ _ _ _ _, U64.nil, bulk_one _⟩
  · cases hcs
    cases hx
    have hlen : len ≤ zs.length := by split at hz <;> omega
    have hr : ∀ z ∈ zs, 0 ≤ z ∧ z < 18446744073709551616 := fun z hz' => by
      have := hwz z hz'
      simp [Lit.wf, IntKind.min, IntKind.max, IntKind.signed, IntKind.bits] at this
      omega
    refine ⟨⟨some a, len, cap, (zs.take len).map Int.toNat⟩, rfl, ⟨by simp; omega, hl, ?_⟩, ?_, ?_⟩
    · rcases Nat.eq_zero_or_pos len with h0 | h0
      · exact .inl h0
      · have hc0 := hcell 0 (by omega)
        have ha0 : a.add 0 = a := by simp [Addr.add]
        rw [ha0] at hc0
        have hs := spot_none hc0
        refine .inr ⟨a.block, a.off, by rw [← hs], World.block_lt_of_cell? W a hc0, fun j x hx' => ?_⟩
        have hj : j < len := by
          have := (List.getElem?_eq_some_iff.1 hx').1
          simp at this; omega
        have hcj := hcell j (by omega)
        rw [hs, add_mk, cell_of_hcell] at hcj
        rw [hcj]
        have e1 : (zs.take len).getD j 0 = zs.getD j 0 := by simp [List.getD, List.getElem?_take, hj]
        have e2 := getD_map_toNat (zs.take len) (fun z hz' => (hr z (List.mem_of_mem_take hz')).1) j (by simp; omega)
        rw [hx', e1] at e2
        simp at e2
        show some (Value.int .u64 _) = some (Value.int .u64 _)
        simp only [List.getD] at e2 ⊢
        rw [← e2]
    · intro x hx'
      obtain ⟨z, hz', rfl⟩ := List.mem_map.1 hx'
      have := hr z (List.mem_of_mem_take hz')
      omega
    · have h1 := bulk_length (lits (H := H) .u64 (zs.take len))
      have h2 : (lits (H := H) .u64 (zs.take len)).length = len := by simp [lits]; omega
      simp only [Rows.uptoBulk]
      show len + 1 ≤ _
      omega
end Go.Proofs.Ytdhmhjbmkimplaa

namespace Go.Proofs.Ytdhmhjbmkimplaa
open Go Go.Eng Go.Proofs Go.NatM Go.ChangeShapes Go.WideShapes Go.ChangeAt Go.RowKit Go.Deep

def wts {α : Type} (wt : α → Nat) : List α → Nat
  | [] => 0
  | x :: l => wt x + wts wt l
theorem wts_mem {α : Type} {wt : α → Nat} {x : α} {l : List α} (h : x ∈ l) : wt x ≤ wts wt l := by
  induction l with
  | nil => cases h
  | cons y l ih =>
    simp only [wts]
    rcases List.mem_cons.1 h with rfl | h'
    · omega
    · have := ih h'; omega
theorem wts_bulk {H α : Type} {wt : α → Nat} (X : Nat → α) (D : Nat → DataW H) : ∀ is : List Nat, (∀ i ∈ is, wt (X i) ≤ Rows.uptoBulk (D i)) → wts wt (is.map X) ≤ Rows.uptoBulkAll (is.map D)
  | [], _ => by simp [wts]
  | i :: is, h => by
    have h1 := h i (by simp)
    have h2 := wts_bulk X D is (fun j hj => h j (by simp [hj]))
    simp only [List.map_cons, wts, Rows.uptoBulkAll]
    omega
/-- an int, by its cell -/
theorem open_i64c {H : Type} {enc : TypeId × Value → H} {P : Program} {t : TypeId} {W : World} {base : Nat} {spare : Nat → Bool} {held : Bool} {cs : List Value} {x : DataW H × List MemPlace} {fuel : Nat}
    (ht : P.underlying t = some (.int .i64)) (hf : DataW.trod enc P W base spare held fuel t cs = some x) : ∃ z : Int, cs = [.int .i64 z] ∧ -9223372036854775808 ≤ z ∧ z < 9223372036854775808 := by
  obtain ⟨m, rfl, _, hw⟩ := DataW.trod_int ht hf
  refine ⟨m, rfl, ?_⟩
  simp [Lit.wf, IntKind.min, IntKind.max, IntKind.signed, IntKind.bits] at hw
  omega
/-- a slice of words, by its cells -/
theorem open_u64d {H : Type} {enc : TypeId × Value → H} {P : Program} {t e : TypeId} {W : World} {base : Nat} {spare : Nat → Bool} {held : Bool} {cs : List Value} {x : DataW H × List MemPlace} {fuel : Nat}
    (ht : P.underlying t = some (.slice e)) (he : P.underlying e = some (.int .u64)) (hc : P.cellsOf e = 1) (hf : DataW.trod enc P W base spare held fuel t cs = some x) :
    ∃ y : SA Nat, cs = [sav y] ∧ Sl u64v W.heap W.heap.size y.A y.n y.c y.l ∧ U64 y.l ∧ y.n + 1 ≤ Rows.uptoBulk x.1 := by
  rcases DataW.trod_slice ht hf with ⟨rfl, _⟩ | ⟨a, len, cap, _, _, _, _, rfl, _⟩
  · obtain ⟨y, e1, r⟩ := open_u64c (d := x.1) (ps := x.2) ht he hc hf <;> exact ⟨y, by rw [e1], r⟩
  · obtain ⟨y, e1, r⟩ := open_u64c (d := x.1) (ps := x.2) ht he hc hf <;> exact ⟨y, by rw [e1], r⟩
/-- a slice of values of k cells -/
theorem open_elems {H α : Type} [Inhabited α] {enc : TypeId × Value → H} {P : Program} {t e : TypeId} {W : World} {base : Nat} {spare : Nat → Bool} {held : Bool} {cs : List Value} {x : DataW H × List MemPlace} {fuel k : Nat}
    (f : α → List Value) (G : α → Prop) (wt : α → Nat) (hk : 0 < k) (hf : ∀ y, (f y).length = k) (ht : P.underlying t = some (.slice e)) (hc : P.cellsOf e = k)
    (elem : ∀ n cs' x, DataW.trod enc P W base spare held n e cs' = some x → ∃ y, cs' = f y ∧ G y ∧ wt y ≤ Rows.uptoBulk x.1)
    (h : DataW.trod enc P W base spare held fuel t cs = some x) :
    ∃ A n c L, cs = [.slice A n c] ∧ Sm k f W.heap W.heap.size A n c L ∧ (∀ y ∈ L, G y) ∧ wts wt L + 1 ≤ Rows.uptoBulk x.1 ∧ n + 1 ≤ Rows.uptoBulk x.1 := by
  rcases open_slice ht h with ⟨rfl, rfl⟩ | ⟨a, len, cap, m, n, D, Pl, rfl, hb, hl, hm, hmm, rfl, hx⟩
  · exact ⟨none, 0, 0, [], rfl, Sm.nil hk _ _ _ _ _, fun y hy => (by cases hy), by simp [wts, Rows.uptoBulk], by simp [Rows.uptoBulk]⟩
  · have hlm : len ≤ m := by split at hmm <;> omega
    rw [hc] at hx
    obtain ⟨X, hX⟩ := choose_lt (n := len) (p := fun i (y : α) => W.cells? base (a.add (i * k)) k = some (f y) ∧ G y ∧ wt y ≤ Rows.uptoBulk (D i)) (fun i hi => by
      obtain ⟨cs', h1, h2⟩ := hx i (by omega)
      obtain ⟨y, rfl, g1, g2⟩ := elem n cs' _ h2
      exact ⟨y, h1, g1, g2⟩)
    refine ⟨some a, len, cap, (List.range len).map X, rfl, ⟨by simp, hl, hk, fun y hy => hf y, ?_⟩, ?_, ?_, ?_⟩
    · rcases Nat.eq_zero_or_pos len with h0 | h0
      · exact .inl h0
      · have hc0 := (hX 0 (by omega)).1
        obtain ⟨_, hl0, hc0⟩ := World.cells?_some hc0
        have hc1 := hc0 0 hk
        obtain ⟨v0, hv0⟩ : ∃ v0, (f (X 0))[0]? = some v0 := ⟨_, List.getElem?_eq_getElem (by rw [hf]; exact hk)⟩
        rw [hv0] at hc1
        have e0 : (a.add (0 * k)).add 0 = a := by simp [Addr.add]
        rw [e0] at hc1
        have hs := spot_none hc1
        refine .inr ⟨a.block, a.off, by rw [← hs], World.block_lt_of_cell? W a hc1, fun j y hy q v hv => ?_⟩
        have hj : j < len := by
          have := (List.getElem?_eq_some_iff.1 hy).1
          simpa using this
        rw [List.getElem?_map, List.getElem?_range hj] at hy
        simp at hy
        subst hy
        obtain ⟨_, hlj, hcj⟩ := World.cells?_some (hX j hj).1
        have hq : q < k := by have := (List.getElem?_eq_some_iff.1 hv).1; rwa [hf] at this
        have := hcj q hq
        rw [hv, hs, add_mk, add_mk, cell_of_hcell, Nat.add_assoc] at this
        exact this
    · intro y hy
      obtain ⟨i, hi, rfl⟩ := List.mem_map.1 hy
      exact (hX i (List.mem_range.1 hi)).2.1
    · have := wts_bulk X D (List.range len) (fun i hi => (hX i (List.mem_range.1 hi)).2.2)
      simp only [Rows.uptoBulk]
      omega
    · have h1 := bulk_length ((List.range len).map D)
      simp only [List.length_map, List.length_range] at h1
      simp only [Rows.uptoBulk]
      omega
end Go.Proofs.Ytdhmhjbmkimplaa

namespace Go.Proofs.Ytdhmhjbmkimplaa
open Go Go.Eng Go.Proofs Go.NatM Go.ChangeShapes Go.WideShapes Go.ChangeAt Go.RowKit Go.Deep

theorem len2 {α : Type} {l : List α} (h : l.length = 2) : ∃ a b, l = [a, b] := by
  match l, h with
  | [a, b], _ => exact ⟨a, b, rfl⟩
theorem len3 {α : Type} {l : List α} (h : l.length = 3) : ∃ a b c, l = [a, b, c] := by
  match l, h with
  | [a, b, c], _ => exact ⟨a, b, c, rfl⟩
theorem len4 {α : Type} {l : List α} (h : l.length = 4) : ∃ a b c d, l = [a, b, c, d] := by
  match l, h with
  | [a, b, c, d], _ => exact ⟨a, b, c, d, rfl⟩
def ivw (x : IV) : Nat := x.m.n
theorem open_int {H : Type} {enc : TypeId × Value → H} {W : World} {base : Nat} {spare : Nat → Bool} {held : Bool} (m : Nat) (cs : List Value) (x : DataW H × List MemPlace)
    (h : DataW.trod enc Try.prog W base spare held m 40 cs = some x) : ∃ y : IV, cs = ivc y ∧ GI W.heap y ∧ ivw y ≤ Rows.uptoBulk x.1 := by
  obtain ⟨xs, q, _, rfl, hl, hxl, hall⟩ := DataW.trod_struct Try.underlying40 h
  have hl' : cs.length = 2 := hl.trans (by kernel_rfl)
  have hxl' : xs.length = 2 := hxl.trans rfl
  obtain ⟨v0, v1, rfl⟩ := len2 hl'
  obtain ⟨x0, x1, rfl⟩ := len2 hxl'
  have cb : Try.prog.cellsOf 4 = 1 := by kernel_rfl
  have cu : Try.prog.cellsOf 38 = 1 := by kernel_rfl
  have h0 : DataW.trod enc Try.prog W base spare held q 4 (([v0, v1].drop 0).take (Try.prog.cellsOf 4)) = some x0 := hall 0 _ rfl
  rw [cb] at h0
  have h1 : DataW.trod enc Try.prog W base spare held q 38 (([v0, v1].drop 1).take (Try.prog.cellsOf 38)) = some x1 := hall 1 _ rfl
  rw [cu] at h1
  obtain ⟨b, e0, _⟩ := DataW.trod_bool Try.underlying4 h0
  obtain rfl : v0 = .bool b := by simpa using e0
  obtain ⟨y1, e1, s1, u1, m1⟩ := open_u64d Try.underlying38 Try.underlying85 (by kernel_rfl) h1
  obtain rfl : v1 = sav y1 := by simpa using e1
  refine ⟨⟨b, y1⟩, rfl, ⟨s1, u1⟩, ?_⟩
  simp only [ivw, List.map_cons, List.map_nil, Rows.uptoBulk, Rows.uptoBulkAll]
  omega
/-- what is read of a matrix -/
structure RM0 (H : Array Obj) (x : MV) : Prop where
  s : Sm 2 ivc H H.size x.A x.n x.k x.l
  g : ∀ y ∈ x.l, GI H y
set_option maxRecDepth 10000 in
theorem open_matc {H : Type} {enc : TypeId × Value → H} {W : World} {base : Nat} {spare : Nat → Bool} {held : Bool} (m : Nat) (cs : List Value) (x : DataW H × List MemPlace)
    (h : DataW.trod enc Try.prog W base spare held m 24 cs = some x) : ∃ y : MV, cs = mvc y ∧ RM0 W.heap y ∧ wts ivw y.l ≤ Rows.uptoBulk x.1 := by
  obtain ⟨xs, q, _, rfl, hl, hxl, hall⟩ := DataW.trod_struct Try.underlying24 h
  have hl' : cs.length = 3 := hl.trans (by kernel_rfl)
  have hxl' : xs.length = 3 := hxl.trans rfl
  obtain ⟨v0, v1, v2, rfl⟩ := len3 hl'
  obtain ⟨x0, x1, x2, rfl⟩ := len3 hxl'
  have ci : Try.prog.cellsOf 3 = 1 := by kernel_rfl
  have cl : Try.prog.cellsOf 22 = 1 := by kernel_rfl
  have h0 : DataW.trod enc Try.prog W base spare held q 3 (([v0, v1, v2].drop 0).take (Try.prog.cellsOf 3)) = some x0 := hall 0 _ rfl
  rw [ci] at h0
  have h1 : DataW.trod enc Try.prog W base spare held q 3 (([v0, v1, v2].drop 1).take (Try.prog.cellsOf 3)) = some x1 := hall 1 _ rfl
  rw [ci] at h1
  have h2 : DataW.trod enc Try.prog W base spare held q 22 (([v0, v1, v2].drop 2).take (Try.prog.cellsOf 22)) = some x2 := hall 2 _ rfl
  rw [cl] at h2
  obtain ⟨z0, e0, b0⟩ := open_i64c Try.underlying3 h0
  obtain rfl : v0 = .int .i64 z0 := by simpa using e0
  obtain ⟨z1, e1, b1⟩ := open_i64c Try.underlying3 h1
  obtain rfl : v1 = .int .i64 z1 := by simpa using e1
  obtain ⟨A, n, c, L, e2, s2, g2, m2, m3⟩ := open_elems ivc (GI W.heap) ivw (show 0 < 2 by omega) (fun _ => rfl) Try.underlying22 (by kernel_rfl) (fun m cs x h => open_int m cs x h) h2
  obtain rfl : v2 = .slice A n c := by simpa using e2
  refine ⟨⟨z0, z1, A, n, c, L⟩, rfl, ⟨s2, g2⟩, ?_⟩
  simp only [List.map_cons, List.map_nil, Rows.uptoBulk, Rows.uptoBulkAll]
  omega
set_option maxRecDepth 10000 in
theorem open_mat {H : Type} {enc : TypeId × Value → H} {W : World} {base base' : Nat} {spare : Nat → Bool} {held : Bool} {v : Value} {d : DataW H} {ps : List MemPlace}
    (hv : Value.okWide Try.prog W .any base' 24 v) (h : DataW.Trod enc Try.prog W base spare held 24 v d ps) :
    ∃ y : MV, v = .agg (mvc y).toArray ∧ RM0 W.heap y ∧ wts ivw y.l ≤ Rows.uptoBulk d := by
  obtain ⟨cs, rfl, _⟩ := okWide_struct Try.underlying24 hv
  obtain ⟨fuel, hf⟩ := h
  obtain ⟨y, e, r⟩ := open_matc fuel _ (d, ps) hf
  have e' : cs.toList = mvc y := e
  refine ⟨y, ?_, r⟩
  rw [← e']
theorem small_mat {H : Array Obj} {y : MV} {b : Nat} (h : b ≤ 1048576) (r : RM0 H y) (hn : wts ivw y.l ≤ b) : RM H y 1048576 := ⟨r.s, fun x hx => ⟨r.g x hx, Nat.le_trans (wts_mem (wt := ivw) hx) (Nat.le_trans hn h)⟩⟩
end Go.Proofs.Ytdhmhjbmkimplaa

namespace Go.Proofs.Ytdhmhjbmkimplaa
open Go Go.Eng Go.Proofs Go.NatM Go.RowKit

theorem cellTypes_mat : Try.prog.cellTypes Try.prog.depth 24 = some [3, 3, 22] := by kernel_rfl
theorem cell_int {P : Program} {W : World} {base : Nat} {t : TypeId} {z : Int} (ht : P.underlying t = some (.int .i64)) (h : Cell.okWide P W .any base t (.int .i64 z)) : -9223372036854775808 ≤ z ∧ z < 9223372036854775808 := by
  simp [Cell.okWide, Cell.ok, ht, IntKind.has, IntKind.min, IntKind.max, IntKind.signed, IntKind.bits] at h
  omega
set_option maxRecDepth 10000 in
theorem inR_of {W : World} {base : Nat} {y : MV} (hv : Value.okWide Try.prog W .any base 24 (.agg (mvc y).toArray)) : InR y := by
  simp only [Value.okWide, Try.underlying24] at hv
  obtain ⟨cs, e, _, ts, hts, _, hall⟩ := hv
  cases e
  rw [cellTypes_mat] at hts
  cases hts
  obtain ⟨u, hu, h0⟩ := hall 0 _ rfl
  cases hu
  obtain ⟨u, hu, h1⟩ := hall 1 _ rfl
  cases hu
  exact ⟨cell_int Try.underlying3 h0, cell_int Try.underlying3 h1⟩
set_option maxRecDepth 10000 in
theorem open_matI {H : Type} {enc : TypeId × Value → H} {W : World} {base base' : Nat} {spare : Nat → Bool} {held : Bool} {v : Value} {d : DataW H} {ps : List MemPlace}
    (hv : Value.okWide Try.prog W .any base' 24 v) (h : DataW.Trod enc Try.prog W base spare held 24 v d ps) :
    ∃ y : MV, v = .agg (mvc y).toArray ∧ (RM0 W.heap y ∧ InR y) ∧ wts ivw y.l ≤ Rows.uptoBulk d := by
  obtain ⟨y, e, r, m⟩ := open_mat hv h
  subst e
  exact ⟨y, rfl, ⟨r, inR_of hv⟩, m⟩
theorem small_matI {H : Array Obj} {y : MV} {b : Nat} (h : b ≤ 1048576) (r : RM0 H y ∧ InR y) (hn : wts ivw y.l ≤ b) : RM H y 1048576 ∧ InR y := ⟨small_mat h r.1 hn, r.2⟩
end Go.Proofs.Ytdhmhjbmkimplaa

namespace Go.Proofs.Ytdhmhjbmkimplaa
open Go Go.Eng Go.Proofs Go.NatM Go.ChangeShapes Go.WideShapes Go.ChangeAt Go.RowKit Go.Deep

def stw (s : SP) : Nat := s.k.m.n + 1
theorem wts_stw (L : List SP) : wts stw L = wsum L := by
  induction L with
  | nil => rfl
  | cons x L ih => simp only [wts, wsum, List.map_cons, List.sum_cons] at ih ⊢; rw [ih]; rfl
theorem len4v {l : List Value} (h : l.length = 5) : ∃ a b c d e, l = [a, b, c, d, e] := by
  match l, h with
  | [a, b, c, d, e], _ => exact ⟨a, b, c, d, e, rfl⟩
set_option maxRecDepth 10000 in
theorem open_intw {H : Type} {enc : TypeId × Value → H} {W : World} {base : Nat} {spare : Nat → Bool} {held : Bool} (m : Nat) (cs : List Value) (x : DataW H × List MemPlace)
    (h : DataW.trod enc Try.prog W base spare held m 40 cs = some x) : ∃ y : IV, cs = ivc y ∧ GI W.heap y ∧ ivw y + 1 ≤ Rows.uptoBulk x.1 := by
  obtain ⟨xs, q, _, rfl, hl, hxl, hall⟩ := DataW.trod_struct Try.underlying40 h
  have hl' : cs.length = 2 := hl.trans (by kernel_rfl)
  have hxl' : xs.length = 2 := hxl.trans rfl
  obtain ⟨v0, v1, rfl⟩ := len2 hl'
  obtain ⟨x0, x1, rfl⟩ := len2 hxl'
  have cb : Try.prog.cellsOf 4 = 1 := by kernel_rfl
  have cu : Try.prog.cellsOf 38 = 1 := by kernel_rfl
  have h0 : DataW.trod enc Try.prog W base spare held q 4 (([v0, v1].drop 0).take (Try.prog.cellsOf 4)) = some x0 := hall 0 _ rfl
  rw [cb] at h0
  have h1 : DataW.trod enc Try.prog W base spare held q 38 (([v0, v1].drop 1).take (Try.prog.cellsOf 38)) = some x1 := hall 1 _ rfl
  rw [cu] at h1
  obtain ⟨b, e0, _⟩ := DataW.trod_bool Try.underlying4 h0
  obtain rfl : v0 = .bool b := by simpa using e0
  obtain ⟨y1, e1, s1, u1, m1⟩ := open_u64d Try.underlying38 Try.underlying85 (by kernel_rfl) h1
  obtain rfl : v1 = sav y1 := by simpa using e1
  refine ⟨⟨b, y1⟩, rfl, ⟨s1, u1⟩, ?_⟩
  simp only [ivw, List.map_cons, List.map_nil, Rows.uptoBulk, Rows.uptoBulkAll]
  omega
set_option maxRecDepth 10000 in
theorem open_step {H : Type} {enc : TypeId × Value → H} {W : World} {base : Nat} {spare : Nat → Bool} {held : Bool} (m : Nat) (cs : List Value) (x : DataW H × List MemPlace)
    (h : DataW.trod enc Try.prog W base spare held m 42 cs = some x) : ∃ y : SP, cs = spc y ∧ GI W.heap y.k ∧ stw y ≤ Rows.uptoBulk x.1 := by
  obtain ⟨xs, q, _, rfl, hl, hxl, hall⟩ := DataW.trod_struct Try.underlying42 h
  have hl' : cs.length = 5 := hl.trans (by kernel_rfl)
  have hxl' : xs.length = 4 := hxl.trans rfl
  obtain ⟨v0, v1, v2, v3, v4, rfl⟩ := len4v hl'
  obtain ⟨x0, x1, x2, x3, rfl⟩ := len4 hxl'
  have ci : Try.prog.cellsOf 3 = 1 := by kernel_rfl
  have cl : Try.prog.cellsOf 40 = 2 := by kernel_rfl
  have h0 : DataW.trod enc Try.prog W base spare held q 3 (([v0, v1, v2, v3, v4].drop 0).take (Try.prog.cellsOf 3)) = some x0 := hall 0 _ rfl
  rw [ci] at h0
  have h1 : DataW.trod enc Try.prog W base spare held q 3 (([v0, v1, v2, v3, v4].drop 1).take (Try.prog.cellsOf 3)) = some x1 := hall 1 _ rfl
  rw [ci] at h1
  have h2 : DataW.trod enc Try.prog W base spare held q 3 (([v0, v1, v2, v3, v4].drop 2).take (Try.prog.cellsOf 3)) = some x2 := hall 2 _ rfl
  rw [ci] at h2
  have h3 : DataW.trod enc Try.prog W base spare held q 40 (([v0, v1, v2, v3, v4].drop 3).take (Try.prog.cellsOf 40)) = some x3 := hall 3 _ rfl
  rw [cl] at h3
  obtain ⟨z0, e0, b0⟩ := open_i64c Try.underlying3 h0
  obtain rfl : v0 = .int .i64 z0 := by simpa using e0
  obtain ⟨z1, e1, b1⟩ := open_i64c Try.underlying3 h1
  obtain rfl : v1 = .int .i64 z1 := by simpa using e1
  obtain ⟨z2, e2, b2⟩ := open_i64c Try.underlying3 h2
  obtain rfl : v2 = .int .i64 z2 := by simpa using e2
  obtain ⟨y, e3, g3, m3⟩ := open_intw _ _ _ h3
  have e4 : [v3, v4] = ivc y := e3
  obtain ⟨yn, yA, ym, yc, yl⟩ := y
  simp only [ivc, sav, List.cons.injEq, and_true] at e4
  obtain ⟨rfl, rfl⟩ := e4
  refine ⟨⟨z0, z1, z2, ⟨yn, ⟨yA, ym, yc, yl⟩⟩⟩, rfl, g3, ?_⟩
  simp only [stw, ivw, List.map_cons, List.map_nil, Rows.uptoBulk, Rows.uptoBulkAll] at m3 ⊢
  omega
set_option maxRecDepth 100000 in
/-- steps handed in -/
theorem open_steps {H : Type} {enc : TypeId × Value → H} {W : World} {base base' : Nat} {spare : Nat → Bool} {held : Bool} {v : Value} {d : DataW H} {ps : List MemPlace}
    (hv : Value.okWide Try.prog W .any base' 25 v) (h : DataW.Trod enc Try.prog W base spare held 25 v d ps) :
    ∃ A n c L, v = .slice A n c ∧ Sm 5 spc W.heap W.heap.size A n c L ∧ (∀ s ∈ L, GI W.heap s.k) ∧ (wts stw L + 1 ≤ Rows.uptoBulk d ∧ n + 1 ≤ Rows.uptoBulk d) := by
  obtain ⟨A, n, c, rfl⟩ := okWide_slice Try.underlying25 hv
  obtain ⟨fuel, hf⟩ := h
  obtain ⟨A', n', c', L, e, r⟩ := open_elems (x := (d, ps)) spc (fun s => GI W.heap s.k) stw (show 0 < 5 by omega) (fun _ => rfl) Try.underlying25 (by kernel_rfl) (fun m cs x h => open_step m cs x h) hf
  have e' : [Value.slice A n c] = [.slice A' n' c'] := e
  simp at e'
  obtain ⟨rfl, rfl, rfl⟩ := e'
  exact ⟨A, n, c, L, rfl, r⟩
theorem small_steps {n : Nat} {L : List SP} {b : Nat} (h : b ≤ 1048576) (hn : wts stw L + 1 ≤ b ∧ n + 1 ≤ b) : wsum L ≤ 1048576 ∧ n ≤ 1048576 := by rw [← wts_stw]; omega
end Go.Proofs.Ytdhmhjbmkimplaa
