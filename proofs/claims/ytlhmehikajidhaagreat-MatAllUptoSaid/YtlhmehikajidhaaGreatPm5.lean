/- Layer 9: the law's own functions: alike, alikeRows, alikeMats, sound, none, of, wakes. Layer 9: of, wakes. Layer 9: MatRing's walk. From a law's row to its walk: arguments as the engine has them. What the bound of an Upto statement gives. Layers 1 and 2: contracts of nat.Shl, mulnat.MulLow. Layer 2: contracts of math/bits.Len, mulnat.Pow. Layer 2: contract of mulnat.Product. Arguments as the engine has them, more: slices of slices of words. Arguments as the engine has them, more: slices of structs, of whatever depth. Arguments as the engine has them: integers and matrices. The engine: frames. What a walk knows of the world lies in one fact: the blocks that it knows whole, and facts on data, which stand whatever is stored into those blocks. Layer 9: facts on matrices and integers that frames carry. The engine: frames, more: blocks of structs made, and written at any place. The engine: range over a function: code walked in a round's frame, calls of yield, the statement itself, returns behind it. Layer 9: lists of integers in least form: each. Plain laws of naturals as lists of words to the base 65536, the lowest first. No program in sight. Plain arithmetic: trailing zeros, single digits. Words and digits to the base 65536. -/
import Derived.Test.YtlhmehikajidhaaGreatPm4
import Derived.Test.YtlhmehikajidhaaGreatPm2
import Derived.Test.YtlhmehikajidhaaGreatPm3
import Derived.ProofKit
import Derived.OpenShut
import Derived.ChangeOld
import Derived.SizedLaws
import Derived.Test.YtlhmehikajidhaaGreatRows
import Derived.Deep.Slices
import Derived.RangeFuncLeaves
import Derived.RangeFuncSeq
import Derived.RangeFuncOwn
import Derived.TacticsIn
set_option maxHeartbeats 8000000
set_option linter.unusedVariables false
set_option linter.unusedSimpArgs false
namespace Go.Proofs.YtlhmehikajidhaaGreat
open Go Go.Eng Go.Proofs Go.NatM Go.RowKit
def YesM (w : World) (e : Ending) (w' : World) : Prop := e = .returned (.bool true) ∧ Ext w w'
theorem alike_t (w : World) (x y : IV) (gx : GI w.heap x) (gy : GI w.heap y) (hl : x.m.l = y.m.l) (hn : x.neg = y.neg) (hx : x.m.n ≤ 1099511627776) (hy : y.m.n ≤ 1099511627776) : Cl Tryz.prog 11 #[.agg (ivc x).toArray, .agg (ivc y).toArray] w (YesM w) := by
  have hs := gx.s
  have hs' := gy.s
  refine enter Tryz.func11 rfl rfl rfl ?_
  repeat' (first | refine TL.ev (ev_simple rfl) rfl ?_ | refine TL.grun rfl rfl rfl ?_ | (refine TL.call rfl rfl ?_; first | (refine (same_t _ _ _ _ _ _ _ _ _ _ _ (by first | ((repeat (first | assumption | (apply Sl.ext; assumption) | (apply Sm.ext; assumption) | (apply Sl.upd; assumption) | (apply Sm.upd; assumption) | omega)); done) | ((repeat (first | assumption | (apply Sl.ext; assumption) | (apply Sm.ext; assumption) | (apply sl_updV; assumption; (focus (repeat (first | assumption | (apply Vr.ext; assumption) | (apply Vr.updX; assumption; rotate_left; omega)))); rfl))); done)) (by first | ((repeat (first | assumption | (apply Sl.ext; assumption) | (apply Sm.ext; assumption) | (apply Sl.upd; assumption) | (apply Sm.upd; assumption) | omega)); done) | ((repeat (first | assumption | (apply Sl.ext; assumption) | (apply Sm.ext; assumption) | (apply sl_updV; assumption; (focus (repeat (first | assumption | (apply Vr.ext; assumption) | (apply Vr.updX; assumption; rotate_left; omega)))); rfl))); done)) (by omega) (by omega) hl).clX.mono ?_; rintro _ wc ⟨rfl, hzc, hEc⟩; refine Back.mk ?_)) | (refine TL.boxA rfl rfl (fun wb bb ebb hVb hEb hzb => ?_); have hlb := box_lo (w0 := w) (by repeat (first | exact Ext.refl _ | (refine Ext.trans ?_ (by assumption)) | (apply ext_upd; assumption; rotate_left; omega))) ebb) | (refine TL.ev (ev_fieldAddr rfl) rfl ?_) | (refine TL.ev (ev_loadVX rfl (by refine ⟨?_, ?_⟩; (focus (repeat (first | assumption | (apply Vr.ext; assumption) | (apply Vr.updX; assumption; rotate_left; omega)))); rfl)) rfl ?_) | (refine TL.ev (ev_eqlB (r := true) rfl rfl (by rw [hn]; exact beq_self_eq_true _)) rfl ?_) | refine T.seq ?_ | refine T.region ?_ | refine TL.nil ?_ | refine T.ret ?_ | refine G.next ?_)
  exact G.ret1 rfl rfl ⟨rfl, (by repeat (first | exact Ext.refl _ | (refine Ext.trans ?_ (by assumption)) | (apply ext_upd; assumption; rotate_left; omega)))⟩
theorem alikeRows_t (w : World) (n : Nat) (A A' : Option Addr) (k k' : Nat) (l l' : List IV) (hs : Sm 2 ivc w.heap w.heap.size A n k l) (hs' : Sm 2 ivc w.heap w.heap.size A' n k' l') (hn : n ≤ 4096)
    (hq : ∀ q, q < n → GI w.heap (l.getD q default) ∧ GI w.heap (l'.getD q default) ∧ (l.getD q default).m.l = (l'.getD q default).m.l ∧ (l.getD q default).neg = (l'.getD q default).neg ∧ (l.getD q default).m.n ≤ 1099511627776 ∧ (l'.getD q default).m.n ≤ 1099511627776) :
    Cl Tryz.prog 58 #[.slice A n k, .slice A' n k'] w (YesM w) := by
  have hlen := hs.len
  have hlen' := hs'.len
  refine enter Tryz.func58 rfl rfl rfl ?_
  repeat' (first | refine TL.ev (ev_simple rfl) rfl ?_ | refine TL.ev (ev_len rfl) rfl ?_ | (refine TL.cmpG rfl rfl rfl rfl (fun hc => ?_) (fun hc => ?_) <;> try first | (exfalso; omega) | exact absurd rfl hc) | refine T.seq ?_ | refine T.region ?_ | refine TL.nil ?_ | refine T.block ?_ | refine T.cond_f rfl ?_ | refine T.skip ?_ | refine G.next ?_)
  refine T.loop (α := Nat) (fun i => [(0, .slice A n k), (1, .slice A' n k'), (5, .int .i64 (i : Int))]) (fun i w' => i ≤ n ∧ Ext w w') (fun i => n - i) 0 (by repeat (first | exact Sub.nil _ | refine Sub.cons rfl ?_ | refine Sub.cons' rfl (int_congr (by omega)) ?_)) ⟨Nat.zero_le _, Ext.refl _⟩ ?_
  rintro i w2 ⟨hi, hE2⟩
  have s1 := hs.ext hE2
  have s2 := hs'.ext hE2
  rcases Nat.lt_or_ge i n with hin | hin
  · have y1 : l[i]? = some (l.getD i default) := by simp [List.getD, show i < l.length by omega]
    have y2 : l'[i]? = some (l'.getD i default) := by simp [List.getD, show i < l'.length by omega]
    obtain ⟨q1, q2, q3, q4, q5, q6⟩ := hq i hin
    replace q1 := q1.ext hE2
    replace q2 := q2.ext hE2
    generalize l.getD i default = x1 at *
    generalize l'.getD i default = x2 at *
    repeat' (first | refine TL.ev (ev_simple rfl) rfl ?_ | (refine TL.call rfl rfl ?_; first | (refine (alike_t _ x1 x2 (by repeat (first | assumption | (apply GI.ext; assumption))) (by repeat (first | assumption | (apply GI.ext; assumption))) q3 q4 q5 q6).mono ?_; rintro _ wa ⟨rfl, hEa⟩; refine Back.mk ?_; have hza := hEa.size)) | refine TL.ev (ev_len rfl) rfl ?_ | (refine TL.cmpG rfl rfl rfl rfl (fun hc => ?_) (fun hc => ?_) <;> try (exfalso; omega)) | refine TL.ev (ev_arN rfl rfl rfl (by omega)) rfl ?_ | refine TF.nil ?_ | refine TF.e rfl ?_ | refine TF.s rfl (fun _ hh => ev_simple rfl) rfl ?_ | refine T.regionX 6 10 (.s 0 (.s 1 (.s 2 (.s 3 (.s 4 (.s 5 (.s 6 (.s 7 (.e 8 (.s 9 .nil)))))))))) mixed (by kernel_rfl) (fun wr hzr hEr => ?_) | (refine TF.s rfl (fun _ _ => ev_indexM rfl rfl hin s1.some) rfl ?_) | (refine TF.s rfl (fun _ _ => ev_indexM rfl rfl hin s2.some) rfl ?_) | (refine TF.s rfl (fun _ hh => ev_loadM rfl (s1.ext hh) y1) rfl ?_) | (refine TF.s rfl (fun _ hh => ev_loadM rfl (s2.ext hh) y2) rfl ?_) | refine G.tree rfl (by repeat (first | exact Ext.refl _ | (refine Ext.trans ?_ (by assumption)) | (apply ext_upd; assumption; rotate_left; omega))) ?_ | refine T.seq ?_ | refine T.region ?_ | refine TL.nil ?_ | refine T.block ?_ | refine T.cond_t rfl ?_ | refine T.cond_f rfl ?_ | refine T.skip ?_ | refine G.next ?_ | refine G.blockN ?_ | refine G.only ?_)
    exact G.again (i + 1) (by repeat (first | exact Sub.nil _ | refine Sub.cons rfl ?_ | refine Sub.cons' rfl (int_congr (by omega)) ?_)) ⟨by omega, (by repeat (first | exact Ext.refl _ | (refine Ext.trans ?_ (by assumption)) | (apply ext_upd; assumption; rotate_left; omega)))⟩ (by omega)
  · obtain rfl : i = n := by omega
    repeat' (first | refine TL.ev (ev_simple rfl) rfl ?_ | refine TL.ev (ev_len rfl) rfl ?_ | (refine TL.cmpG rfl rfl rfl rfl (fun hc => ?_) (fun hc => ?_) <;> try (exfalso; omega)) | refine T.seq ?_ | refine T.region ?_ | refine TL.nil ?_ | refine T.cond_f rfl ?_ | refine T.exit ?_ | refine T.ret ?_ | refine G.next ?_ | refine G.blockE ?_ | refine G.thenE ?_)
    exact G.ret1 rfl rfl ⟨rfl, hE2⟩
theorem alikeMats_t (w : World) (x y : MV) (r c K K' : Nat) (F F' : Nat → Nat → Int) (hx : LM w.heap x r c F K) (hy : LM w.heap y r c F' K') (hF : ∀ i j, i < r → j < c → F i j = F' i j) (hK : K ≤ 1099511627776) (hK' : K' ≤ 1099511627776) :
    Cl Tryz.prog 57 #[.agg (mvc x).toArray, .agg (mvc y).toArray] w (YesM w) := by
  obtain ⟨xr, xc, A, n, k, l⟩ := x
  obtain ⟨yr, yc, A', n', k', l'⟩ := y
  obtain ⟨h1, h2, h3, h4, h5⟩ := id hx.sh
  obtain ⟨h1', h2', h3', h4', h5'⟩ := id hy.sh
  dsimp only at h1 h2 h5 h1' h2' h5'
  subst h1 h2 h5 h1' h2' h5'
  have hm := mul64 h3 h4
  have hs := hx.s
  have hs' := hy.s
  dsimp only at hs hs'
  have hq : ∀ q, q < r * c → GI w.heap (l.getD q default) ∧ GI w.heap (l'.getD q default) ∧ (l.getD q default).m.l = (l'.getD q default).m.l ∧ (l.getD q default).neg = (l'.getD q default).neg ∧ (l.getD q default).m.n ≤ 1099511627776 ∧ (l'.getD q default).m.n ≤ 1099511627776 := by
    intro q hq
    have hc : 0 < c := by rcases Nat.eq_zero_or_pos c with h0 | h0
                          · rw [h0, Nat.mul_zero] at hq; omega
                          · exact h0
    have e1 : q / c < r := Nat.div_lt_of_lt_mul (by rw [Nat.mul_comm]; omega)
    have e2 : q % c < c := Nat.mod_lt _ hc
    obtain ⟨a1, a2⟩ := hx.g (q / c) (q % c) e1 e2
    obtain ⟨b1, b2⟩ := hy.g (q / c) (q % c) e1 e2
    rw [Nat.div_add_mod'] at a1 a2 b1 b2
    rw [← hF _ _ e1 e2] at b1
    exact ⟨a1.g, b1.g, by rw [a1.d, b1.d], by rw [a1.e, b1.e], Nat.le_trans a2 hK, Nat.le_trans b2 hK'⟩
  refine enter Tryz.func57 rfl rfl rfl ?_
  repeat' (first | refine TL.ev (ev_simple rfl) rfl ?_ | refine TL.grun rfl rfl rfl ?_ | (refine TL.call rfl rfl ?_; first | (refine (alikeRows_t _ (r * c) A A' k k' l l' hsw hsw' hm (fun q h => by obtain ⟨q1, q2, q3⟩ := hq q h; exact ⟨q1.ext (hEb.trans hEd), q2.ext (hEb.trans hEd), q3⟩)).mono ?_; rintro _ wa ⟨rfl, hEa⟩; refine Back.mk ?_; have hza := hEa.size)) | (refine TL.cmpG rfl rfl rfl rfl (fun hc => ?_) (fun hc => ?_) <;> try first | (exfalso; omega) | exact absurd rfl hc) | (refine TL.boxA (cs := [.int .i64 (r : Int), .int .i64 (c : Int), .slice A (r * c) k]) rfl rfl (fun wb bb ebb hVb hEb hzb => ?_)) | (refine TL.boxA (cs := [.int .i64 (r : Int), .int .i64 (c : Int), .slice A' (r * c) k']) rfl rfl (fun wd bd ebd hVd hEd hzd => ?_); have hsw := (hs.ext (hEb.trans hEd)).size; have hsw' := (hs'.ext (hEb.trans hEd)).size) | (refine TL.ev (ev_fieldAddr rfl) rfl ?_) | (refine TL.ev (ev_loadVX rfl (by refine ⟨?_, ?_⟩; (focus (repeat (first | assumption | (apply Vr.ext; assumption) | (apply Vr.updX; assumption; rotate_left; omega)))); rfl)) rfl ?_) | refine T.seq ?_ | refine T.region ?_ | refine TL.nil ?_ | refine T.ret ?_ | refine G.next ?_)
  exact G.ret1 rfl rfl ⟨rfl, (by repeat (first | exact Ext.refl _ | (refine Ext.trans ?_ (by assumption)) | (apply ext_upd; assumption; rotate_left; omega)))⟩
end Go.Proofs.YtlhmehikajidhaaGreat
namespace Go.Proofs.YtlhmehikajidhaaGreat
open Go Go.Eng Go.Proofs Go.NatM Go.RowKit
theorem ofw_ok (w : World) {z : Int} {n : Nat} [e0 : IsN z n] (hn : n < 18446744073709551616) : Cl Tryz.prog 10 #[.int .u64 z] w (fun e w' => ∃ A, e = .returned (.agg (ivc ⟨false, ⟨A, 1, 1, [n]⟩⟩).toArray) ∧ Sl u64v w'.heap w'.heap.size A 1 1 [n] ∧ Ext w w') := by
  obtain rfl := e0.out
  refine enter Tryz.func10 rfl rfl rfl ?_
  repeat' (first | refine TL.ev (ev_simple rfl) rfl ?_ | (refine TL.build1U rfl rfl (fun wn bn ebn hBn hEn hzn => ?_); have hSn := hBn.slN (n := 1) (c := 1) rfl (Nat.le_refl _) hBn.lt) | (refine TL.alloc rfl (fun wa ba eba hVa hEa hza => ?_); have hla := box_lo (w0 := w) (by repeat (first | exact Ext.refl _ | (refine Ext.trans ?_ (by assumption)) | (apply ext_upd; assumption; rotate_left; omega))) eba) | (refine TL.storeVX rfl rfl rfl rfl (by refine ⟨?_, ?_⟩; (focus (repeat (first | assumption | (apply Vr.ext; assumption) | (apply Vr.updX; assumption; rotate_left; omega)))); rfl) (fun ws hVs hUs hzs => ?_)) | (refine TL.ev (ev_buildX rfl rfl) rfl ?_) | refine T.seq ?_ | refine T.region ?_ | refine TL.nil ?_ | refine T.ret ?_ | refine G.next ?_)
  have hS : Sl u64v ws.heap wn.heap.size (some ⟨bn, 0, none⟩) 1 1 [n] := (by first | ((repeat (first | assumption | (apply Sl.ext; assumption) | (apply Sm.ext; assumption) | (apply Sl.upd; assumption) | (apply Sm.upd; assumption) | omega)); done) | ((repeat (first | assumption | (apply Sl.ext; assumption) | (apply Sm.ext; assumption) | (apply sl_updV; assumption; (focus (repeat (first | assumption | (apply Vr.ext; assumption) | (apply Vr.updX; assumption; rotate_left; omega)))); rfl))); done))
  exact G.retC1 rfl rfl (held_agg hVs rfl) ⟨_, rfl, hS.size, (by repeat (first | exact Ext.refl _ | (refine Ext.trans ?_ (by assumption)) | (apply ext_upd; assumption; rotate_left; omega)))⟩
theorem dig_small {n : Nat} (h : n < 18446744073709551616) (h0 : n ≠ 0) : dig n = [n] := by
  rw [dig_pos h0, Nat.mod_eq_of_lt h, Nat.div_eq_of_lt h, dig_zero]
theorem gm_one {H : Array Obj} {x : IV} {b : Nat} {K : Nat} (hs : Sm 2 ivc H H.size (some ⟨b, 0, none⟩) 1 1 [x]) (g : GI H x) (hK : x.m.n ≤ K) : GM H ⟨1, 1, some ⟨b, 0, none⟩, 1, 1, [x]⟩ 1 1 K :=
  ⟨⟨rfl, rfl, by omega, by omega, rfl⟩, hs, fun y hy => by rw [List.mem_singleton] at hy; subst hy; exact ⟨g, hK⟩⟩
theorem mvc_mk (r c : Int) (A : Option Addr) (n k : Nat) (l : List IV) : mvc ⟨r, c, A, n, k, l⟩ = [.int .i64 r, .int .i64 c, .slice A n k] := rfl
theorem lm_one {H : Array Obj} {z : MV} {F : Nat → Nat → Int} {K : Nat} (h : LM H z 1 1 F K) : ∃ A k x, z = ⟨1, 1, A, 1, k, [x]⟩ ∧ Sm 2 ivc H H.size A 1 k [x] ∧ LI H (F 0 0) x ∧ x.m.n ≤ K := by
  obtain ⟨zr, zc, A, n, k, l⟩ := z
  obtain ⟨h1, h2, h3, h4, h5⟩ := id h.sh
  dsimp only at h1 h2 h5
  subst h1 h2 h5
  have hs := h.s
  have hg := h.g 0 0 (by omega) (by omega)
  dsimp only at hs hg
  have hl := hs.len
  obtain ⟨x, rfl⟩ : ∃ x, l = [x] := List.length_eq_one_iff.1 hl
  exact ⟨A, k, x, rfl, hs, hg.1, hg.2⟩
theorem w6_eq {H : Array Obj} {b2 b3 : Nat} {A2 A3 : Option Addr} {x : IV} (h : LI H (psum (fun q => ent ⟨1, 1, some ⟨b2, 0, none⟩, 1, 1, [⟨false, ⟨A2, 1, 1, [2]⟩⟩]⟩ 1 0 q * ent ⟨1, 1, some ⟨b3, 0, none⟩, 1, 1, [⟨false, ⟨A3, 1, 1, [3]⟩⟩]⟩ 1 q 0) 1) x) : LI H 6 x := by
  have e : psum (fun q => ent ⟨1, 1, some ⟨b2, 0, none⟩, 1, 1, [⟨false, ⟨A2, 1, 1, [2]⟩⟩]⟩ 1 0 q * ent ⟨1, 1, some ⟨b3, 0, none⟩, 1, 1, [⟨false, ⟨A3, 1, 1, [3]⟩⟩]⟩ 1 q 0) 1 = 6 := by
    simp [psum, ent, ival, sgn, val]
  rw [e] at h
  exact h
set_option maxRecDepth 100000 in
theorem wakes_ok (w : World) : Cl Tryz.prog 6 #[] w (YesM w) := by
  have d6 : dig 6 = [6] := dig_small (by omega) (by omega)
  refine enter Tryz.func6 rfl rfl rfl ?_
  repeat' (first | refine TL.ev (ev_simple rfl) rfl ?_ | refine TL.grun rfl rfl rfl ?_ | (refine TL.call rfl rfl ?_; first | (refine (ofw_ok (n := 2) _ (by omega)).mono ?_; rintro _ w2 ⟨A2, rfl, hS2, hE2⟩; refine Back.mk ?_; have hz2 := hE2.size) | (refine (ofw_ok (n := 3) _ (by omega)).mono ?_; rintro _ w3 ⟨A3, rfl, hS3, hE3⟩; refine Back.mk ?_; have hz3 := hE3.size) | (refine (mmul_ok _ ⟨1, 1, some ⟨bm, 0, none⟩, 1, 1, [⟨false, ⟨A2, 1, 1, [2]⟩⟩]⟩ ⟨1, 1, some ⟨bn, 0, none⟩, 1, 1, [⟨false, ⟨A3, 1, 1, [3]⟩⟩]⟩ 1 1 1 1 1 (gm_one ((hSn2.ext (hE3.trans hEn)).size) ⟨(hS2.ext ((hEm.trans hE3).trans hEn)).size, U64.one (by omega)⟩ (Nat.le_refl _)) (gm_one hSn3 ⟨(hS3.ext hEn).size, U64.one (by omega)⟩ (Nat.le_refl _)) (by omega) (by omega)).mono ?_; rintro _ wp ⟨z, rfl, hLp, hEp, -⟩; obtain ⟨A1, k1, x1, rfl, hSp, hLI, hxn⟩ := lm_one hLp; clear hLp; replace hLI := w6_eq hLI; rw [mvc_mk]; refine Back.mk ?_; have hzp := hEp.size) | (refine (ofw_ok (n := 6) _ (by omega)).mono ?_; rintro _ w6 ⟨A6, rfl, hS6, hE6⟩; refine Back.mk ?_; have hz6 := hE6.size) | (refine (alike_t _ x1 ⟨false, ⟨A6, 1, 1, [6]⟩⟩ (((hLI.ext hEa).updV hUs hVa rfl).ext (by exact hEr.trans hE6)).g ⟨hS6, U64.one (by omega)⟩ (by rw [hLI.d]; exact d6) hLI.e (by omega) (show 1 ≤ 1099511627776 by decide)).mono ?_; rintro _ wk ⟨rfl, hEk⟩; refine Back.mk ?_; have hzk := hEk.size)) | refine TF.nil ?_ | refine TF.e rfl ?_ | refine TF.s rfl (fun _ hh => ev_simple rfl) rfl ?_ | refine TF.sg rfl rfl rfl rfl (fun _ hh => ev_len rfl) rfl ?_ | refine TF.sg rfl rfl rfl rfl (fun _ hh => ev_fieldAddr rfl) rfl ?_ | refine TF.sg rfl rfl rfl rfl (fun _ hh => ev_loadVX rfl (by refine ⟨?_, ?_⟩; (focus (repeat (first | assumption | (apply Vr.ext; assumption) | (apply Vr.updX; assumption; rotate_left; omega)))); rfl)) rfl ?_ | refine TF.s rfl (fun _ _ => ev_eql (b := true) rfl rfl (decide_eq_true (by omega))) rfl ?_ | refine TF.sg rfl rfl rfl rfl (fun _ _ => ev_eql (b := true) rfl rfl (decide_eq_true (by omega))) rfl ?_ | refine T.regionX 2 27 (.s 0 (.s 1 (.s 2 (.s 3 (.s 4 (.s 5 (.s 6 (.s 7 (.s 8 (.s 9 (.s 10 (.s 11 (.s 12 (.s 13 (.s 14 (.s 15 (.s 16 (.s 17 (.s 18 (.s 19 (.s 20 (.s 21 (.s 22 (.e 23 (.e 24 (.s 25 (.s 26 .nil))))))))))))))))))))))))))) mixed (by kernel_rfl) (fun wr hzr hEr => ?_) | (refine TL.buildX1 (f := ivc) (u := ⟨false, ⟨A3, 1, 1, [3]⟩⟩) rfl rfl rfl rfl rfl rfl rfl (fun wn bn ebn hVn hSn3 hEn hzn => ?_)) | (refine TL.buildX1 (f := ivc) (u := ⟨false, ⟨A2, 1, 1, [2]⟩⟩) rfl rfl rfl rfl rfl rfl rfl (fun wm bm ebm hVm hSn2 hEm hzm => ?_)) | (refine TF.sg rfl rfl rfl rfl (fun _ _ => ev_indexM rfl rfl (by omega) hSp.some) rfl ?_) | (refine TF.sg rfl rfl rfl rfl (fun _ hh => ev_loadM rfl ((sm_updV hUs hVa rfl (hSp.ext hEa)).ext hh) rfl) rfl ?_) | (refine TL.alloc rfl (fun wa ba eba hVa hEa hza => ?_); have hla := box_lo (w0 := w) (by repeat (first | exact Ext.refl _ | (refine Ext.trans ?_ (by assumption)) | (apply ext_upd; assumption; rotate_left; omega))) eba) | (refine TL.storeVX rfl rfl rfl rfl (by refine ⟨?_, ?_⟩; (focus (repeat (first | assumption | (apply Vr.ext; assumption) | (apply Vr.updX; assumption; rotate_left; omega)))); rfl) (fun ws hVs hUs hzs => ?_)) | (refine TL.ev (ev_buildX rfl rfl) rfl ?_) | refine G.tree rfl (by repeat (first | exact Ext.refl _ | (refine Ext.trans ?_ (by assumption)) | (apply ext_upd; assumption; rotate_left; omega))) ?_ | refine T.seq ?_ | refine T.region ?_ | refine TL.nil ?_ | refine T.ret ?_ | refine G.next ?_ | refine G.only ?_)
  exact G.ret1 rfl rfl ⟨rfl, (by repeat (first | exact Ext.refl _ | (refine Ext.trans ?_ (by assumption)) | (apply ext_upd; assumption; rotate_left; omega)))⟩
end Go.Proofs.YtlhmehikajidhaaGreat
namespace Go.Proofs.YtlhmehikajidhaaGreat
open Go Go.Eng Go.Proofs Go.NatM Go.RowKit
structure RM (H : Array Obj) (x : MV) (K : Nat) : Prop where
  s : Sm 2 ivc H H.size x.A x.n x.k x.l
  g : ∀ y ∈ x.l, GI H y ∧ y.m.n ≤ K
theorem RM.gm {H : Array Obj} {x : MV} {r c K : Nat} (h : RM H x K) (hs : Sound x r c) : GM H x r c K := ⟨hs, h.s, h.g⟩
theorem GM.updV {w w' : World} {x : MV} {r c K b : Nat} {t : TypeId} {cs : List Value} (hu : Upd b w w') (hV : Vr w.heap b t cs) (h1 : cs.all noU64 = true) (h2 : cs.all noBool = true) (h : GM w.heap x r c K) : GM w'.heap x r c K :=
  ⟨h.sh, (sm_updV hu hV h2 h.s).size, fun y hy => ⟨⟨(sl_updV hu hV h1 (h.g y hy).1.s).size, (h.g y hy).1.u⟩, (h.g y hy).2⟩⟩
theorem lm_mk {H : Array Obj} {z : MV} {r c : Nat} {F : Nat → Nat → Int} {K : Nat} (h : LM H z r c F K) : ∃ A k l, z = ⟨r, c, A, r * c, k, l⟩ := by
  obtain ⟨zr, zc, A, n, k, l⟩ := z
  obtain ⟨h1, h2, h3, h4, h5⟩ := id h.sh
  dsimp only at h1 h2 h5
  subst h1 h2 h5
  exact ⟨A, k, l, rfl⟩
theorem psum_congr {f g : Nat → Int} {n : Nat} (h : ∀ q, q < n → f q = g q) : psum f n = psum g n := by
  induction n with
  | zero => rfl
  | succ n ih => rw [psum, psum, ih (fun q hq => h q (by omega)), h n (by omega)]
theorem psum_zero (n : Nat) : psum (fun _ => 0) n = 0 := by
  induction n with
  | zero => rfl
  | succ n ih => rw [psum, ih]; omega
theorem psum_add (f g : Nat → Int) (n : Nat) : psum (fun q => f q + g q) n = psum f n + psum g n := by
  induction n with
  | zero => rfl
  | succ n ih => rw [psum, psum, psum, ih]; omega
theorem psum_mul (c : Int) (f : Nat → Int) (n : Nat) : psum (fun q => c * f q) n = c * psum f n := by
  induction n with
  | zero => rw [psum, psum, Int.mul_zero]
  | succ n ih => rw [psum, psum, ih, Int.mul_add]
theorem psum_mulR (c : Int) (f : Nat → Int) (n : Nat) : psum (fun q => f q * c) n = psum f n * c := by
  induction n with
  | zero => rw [psum, psum, Int.zero_mul]
  | succ n ih => rw [psum, psum, ih, Int.add_mul]
theorem psum_swap (f : Nat → Nat → Int) (n m : Nat) : psum (fun p => psum (fun q => f p q) m) n = psum (fun q => psum (fun p => f p q) n) m := by
  induction n with
  | zero => rw [psum]; exact (psum_zero m).symm
  | succ n ih =>
    rw [psum, ih, ← psum_add]
    exact psum_congr (fun q _ => by rw [psum])
theorem psum_unit (f : Nat → Int) (i n : Nat) : psum (fun q => (if i = q then 1 else 0) * f q) n = if i < n then f i else 0 := by
  induction n with
  | zero => rfl
  | succ n ih =>
    rw [psum, ih]
    rcases Nat.lt_trichotomy i n with h | h | h
    · rw [if_pos h, if_neg (show ¬ i = n by omega), if_pos (by omega)]; omega
    · subst h; rw [if_neg (Nat.lt_irrefl i), if_pos (rfl : i = i), if_pos (by omega)]; omega
    · rw [if_neg (show ¬ i < n by omega), if_neg (show ¬ i = n by omega), if_neg (by omega)]; omega
end Go.Proofs.YtlhmehikajidhaaGreat
namespace Go.Proofs.YtlhmehikajidhaaGreat
open Go Go.Eng Go.Proofs Go.NatM Go.ChangeShapes Go.WideShapes Go.ChangeAt Go.RowKit
theorem spot_none {w : World} {a : Addr} {v : Value} (h : w.cell? a = some v) : a = ⟨a.block, a.off, none⟩ := by
  cases a with
  | mk b o s =>
    cases s with
    | none => rfl
    | some s => unfold World.cell? at h; split at h <;> simp at h
theorem getD_map_toNat (zs : List Int) (hz : ∀ z ∈ zs, 0 ≤ z) (j : Nat) (hj : j < zs.length) : ((zs.map Int.toNat)[j]?).map (fun x : Nat => (x : Int)) = some (zs.getD j 0) := by
  simp [List.getD, hj, Int.toNat_of_nonneg (hz _ (List.getElem_mem hj))]
end Go.Proofs.YtlhmehikajidhaaGreat
namespace Go.Proofs.YtlhmehikajidhaaGreat
open Go Go.Eng Go.Proofs Go.NatM
theorem bulk_one {H : Type} (d : DataW H) : 1 ≤ Rows.uptoBulk d := by
  cases d with
  | lit l => cases l <;> simp [Rows.uptoBulk]
  | nil => simp [Rows.uptoBulk]
  | ptr d => simp [Rows.uptoBulk]
  | slice elems spare => simp [Rows.uptoBulk]
  | agg parts => simp [Rows.uptoBulk]
  | iface t d => simp [Rows.uptoBulk]
  | map entries => simp [Rows.uptoBulk]
  | held h => simp [Rows.uptoBulk]
theorem bulk_part {H : Type} {d : DataW H} {l : List (DataW H)} (h : d ∈ l) : Rows.uptoBulk d ≤ Rows.uptoBulkAll l := by
  induction l with
  | nil => cases h
  | cons x r ih =>
    simp only [Rows.uptoBulkAll]
    cases List.mem_cons.1 h with
    | inl e => subst e; omega
    | inr e => have := ih e; omega
theorem bulk_length {H : Type} (l : List (DataW H)) : l.length ≤ Rows.uptoBulkAll l := by
  induction l with
  | nil => simp [Rows.uptoBulkAll]
  | cons x r ih => have := bulk_one x; simp only [Rows.uptoBulkAll, List.length_cons]; omega
theorem small_all {H : Type} {ds gs : List (DataW H)} (h : Rows.uptoSmall H (ds ++ gs) = true) : Rows.uptoBulkAll (ds ++ gs) ≤ 1048576 := of_decide_eq_true h
theorem small_part {H : Type} {ds gs : List (DataW H)} (h : Rows.uptoSmall H (ds ++ gs) = true) {j : Nat} {d : DataW H} (hd : (ds ++ gs)[j]? = some d) : Rows.uptoBulk d ≤ 1048576 := by
  have h1 := small_all h
  have h2 := bulk_part (List.mem_of_getElem? hd)
  omega
end Go.Proofs.YtlhmehikajidhaaGreat
namespace Go.Proofs.YtlhmehikajidhaaGreat
open Go Go.Eng Go.Proofs Go.NatM
end Go.Proofs.YtlhmehikajidhaaGreat
namespace Go.Proofs.YtlhmehikajidhaaGreat
open Go Go.Eng Go.Proofs Go.NatM
end Go.Proofs.YtlhmehikajidhaaGreat
namespace Go.Proofs.YtlhmehikajidhaaGreat
open Go Go.Eng Go.Proofs Go.NatM
def LS (H : Array Obj) (B : Nat) (L : List (SA Nat)) : Prop := ∀ x ∈ L, Sl u64v H B x.A x.n x.c x.l ∧ U64 x.l
theorem LS.ext {w w' : World} {B : Nat} {L : List (SA Nat)} (hb : Ext w w') (h : LS w.heap B L) : LS w'.heap B L := fun x hx => ⟨(h x hx).1.ext hb, (h x hx).2⟩
theorem LS.take {H : Array Obj} {B : Nat} {L : List (SA Nat)} (h : LS H B L) (k : Nat) : LS H B (L.take k) := fun x hx => h x (List.mem_of_mem_take hx)
theorem LS.drop {H : Array Obj} {B : Nat} {L : List (SA Nat)} (h : LS H B L) (k : Nat) : LS H B (L.drop k) := fun x hx => h x (List.mem_of_mem_drop hx)
end Go.Proofs.YtlhmehikajidhaaGreat
namespace Go.Proofs.YtlhmehikajidhaaGreat
open Go Go.Eng Go.Proofs Go.NatM Go.ChangeShapes Go.WideShapes Go.ChangeAt Go.RowKit Go.Deep
theorem open_u64c {H : Type} {enc : TypeId × Value → H} {P : Program} {t e : TypeId} {W : World} {base : Nat} {spare : Nat → Bool} {held : Bool} {v : Value} {d : DataW H} {ps : List MemPlace} {fuel : Nat}
    (ht : P.underlying t = some (.slice e)) (he : P.underlying e = some (.int .u64)) (hc : P.cellsOf e = 1) (hf : DataW.trod enc P W base spare held fuel t [v] = some (d, ps)) :
    ∃ x : SA Nat, v = sav x ∧ Sl u64v W.heap W.heap.size x.A x.n x.c x.l ∧ U64 x.l ∧ x.n + 1 ≤ Rows.uptoBulk d := by
  rcases open_ints ht he hc hf with ⟨hcs, hx⟩ | ⟨a, len, cap, zs, hcs, hb, hl, hm, hz, hx, hcell, hwz⟩
  · cases hcs
    cases hx
    exact ⟨⟨none, 0, 0, []⟩, rfl, Sl.nil _ _ _ _ _, U64.nil, bulk_one _⟩
  · cases hcs
    cases hx
    have hlen : len ≤ zs.length := by split at hz <;> omega
    have hr : ∀ z ∈ zs, 0 ≤ z ∧ z < 18446744073709551616 := fun z hz' => by
      have := hwz z hz'
      simp [Lit.wf, IntKind.min, IntKind.max, IntKind.signed, IntKind.bits] at this
      omega
    refine ⟨⟨some a, len, cap, (zs.take len).map Int.toNat⟩, rfl, ⟨by simp; omega, hl, ?_⟩, ?_, ?_⟩
    · rcases Nat.eq_zero_or_pos len with h0 | h0
      · exact .inl h0
      · have hc0 := hcell 0 (by omega)
        have ha0 : a.add 0 = a := by simp [Addr.add]
        rw [ha0] at hc0
        have hs := spot_none hc0
        refine .inr ⟨a.block, a.off, by rw [← hs], World.block_lt_of_cell? W a hc0, fun j x hx' => ?_⟩
        have hj : j < len := by
          have := (List.getElem?_eq_some_iff.1 hx').1
          simp at this; omega
        have hcj := hcell j (by omega)
        rw [hs, add_mk, cell_of_hcell] at hcj
        rw [hcj]
        have e1 : (zs.take len).getD j 0 = zs.getD j 0 := by simp [List.getD, List.getElem?_take, hj]
        have e2 := getD_map_toNat (zs.take len) (fun z hz' => (hr z (List.mem_of_mem_take hz')).1) j (by simp; omega)
        rw [hx', e1] at e2
        simp at e2
        show some (Value.int .u64 _) = some (Value.int .u64 _)
        simp only [List.getD] at e2 ⊢
        rw [← e2]
    · intro x hx'
      obtain ⟨z, hz', rfl⟩ := List.mem_map.1 hx'
      have := hr z (List.mem_of_mem_take hz')
      omega
    · have h1 := bulk_length (lits (H := H) .u64 (zs.take len))
      have h2 : (lits (H := H) .u64 (zs.take len)).length = len := by simp [lits]; omega
      simp only [Rows.uptoBulk]
      show len + 1 ≤ _
      omega
end Go.Proofs.YtlhmehikajidhaaGreat
namespace Go.Proofs.YtlhmehikajidhaaGreat
open Go Go.Eng Go.Proofs Go.NatM Go.ChangeShapes Go.WideShapes Go.ChangeAt Go.RowKit Go.Deep
def wts {α : Type} (wt : α → Nat) : List α → Nat
  | [] => 0
  | x :: l => wt x + wts wt l
theorem wts_mem {α : Type} {wt : α → Nat} {x : α} {l : List α} (h : x ∈ l) : wt x ≤ wts wt l := by
  induction l with
  | nil => cases h
  | cons y l ih =>
    simp only [wts]
    rcases List.mem_cons.1 h with rfl | h'
    · omega
    · have := ih h'; omega
theorem wts_bulk {H α : Type} {wt : α → Nat} (X : Nat → α) (D : Nat → DataW H) : ∀ is : List Nat, (∀ i ∈ is, wt (X i) ≤ Rows.uptoBulk (D i)) → wts wt (is.map X) ≤ Rows.uptoBulkAll (is.map D)
  | [], _ => by simp [wts]
  | i :: is, h => by
    have h1 := h i (by simp)
    have h2 := wts_bulk X D is (fun j hj => h j (by simp [hj]))
    simp only [List.map_cons, wts, Rows.uptoBulkAll]
    omega
theorem open_i64c {H : Type} {enc : TypeId × Value → H} {P : Program} {t : TypeId} {W : World} {base : Nat} {spare : Nat → Bool} {held : Bool} {cs : List Value} {x : DataW H × List MemPlace} {fuel : Nat}
    (ht : P.underlying t = some (.int .i64)) (hf : DataW.trod enc P W base spare held fuel t cs = some x) : ∃ z : Int, cs = [.int .i64 z] ∧ -9223372036854775808 ≤ z ∧ z < 9223372036854775808 := by
  obtain ⟨m, rfl, _, hw⟩ := DataW.trod_int ht hf
  refine ⟨m, rfl, ?_⟩
  simp [Lit.wf, IntKind.min, IntKind.max, IntKind.signed, IntKind.bits] at hw
  omega
theorem open_u64d {H : Type} {enc : TypeId × Value → H} {P : Program} {t e : TypeId} {W : World} {base : Nat} {spare : Nat → Bool} {held : Bool} {cs : List Value} {x : DataW H × List MemPlace} {fuel : Nat}
    (ht : P.underlying t = some (.slice e)) (he : P.underlying e = some (.int .u64)) (hc : P.cellsOf e = 1) (hf : DataW.trod enc P W base spare held fuel t cs = some x) :
    ∃ y : SA Nat, cs = [sav y] ∧ Sl u64v W.heap W.heap.size y.A y.n y.c y.l ∧ U64 y.l ∧ y.n + 1 ≤ Rows.uptoBulk x.1 := by
  rcases DataW.trod_slice ht hf with ⟨rfl, _⟩ | ⟨a, len, cap, _, _, _, _, rfl, _⟩
  · obtain ⟨y, e1, r⟩ := open_u64c (d := x.1) (ps := x.2) ht he hc hf <;> exact ⟨y, by rw [e1], r⟩
  · obtain ⟨y, e1, r⟩ := open_u64c (d := x.1) (ps := x.2) ht he hc hf <;> exact ⟨y, by rw [e1], r⟩
theorem open_elems {H α : Type} [Inhabited α] {enc : TypeId × Value → H} {P : Program} {t e : TypeId} {W : World} {base : Nat} {spare : Nat → Bool} {held : Bool} {cs : List Value} {x : DataW H × List MemPlace} {fuel k : Nat}
    (f : α → List Value) (G : α → Prop) (wt : α → Nat) (hk : 0 < k) (hf : ∀ y, (f y).length = k) (ht : P.underlying t = some (.slice e)) (hc : P.cellsOf e = k)
    (elem : ∀ n cs' x, DataW.trod enc P W base spare held n e cs' = some x → ∃ y, cs' = f y ∧ G y ∧ wt y ≤ Rows.uptoBulk x.1)
    (h : DataW.trod enc P W base spare held fuel t cs = some x) :
    ∃ A n c L, cs = [.slice A n c] ∧ Sm k f W.heap W.heap.size A n c L ∧ (∀ y ∈ L, G y) ∧ wts wt L + 1 ≤ Rows.uptoBulk x.1 ∧ n + 1 ≤ Rows.uptoBulk x.1 := by
  rcases open_slice ht h with ⟨rfl, rfl⟩ | ⟨a, len, cap, m, n, D, Pl, rfl, hb, hl, hm, hmm, rfl, hx⟩
  · exact ⟨none, 0, 0, [], rfl, Sm.nil hk _ _ _ _ _, fun y hy => (by cases hy), by simp [wts, Rows.uptoBulk], by simp [Rows.uptoBulk]⟩
  · have hlm : len ≤ m := by split at hmm <;> omega
    rw [hc] at hx
    obtain ⟨X, hX⟩ := choose_lt (n := len) (p := fun i (y : α) => W.cells? base (a.add (i * k)) k = some (f y) ∧ G y ∧ wt y ≤ Rows.uptoBulk (D i)) (fun i hi => by
      obtain ⟨cs', h1, h2⟩ := hx i (by omega)
      obtain ⟨y, rfl, g1, g2⟩ := elem n cs' _ h2
      exact ⟨y, h1, g1, g2⟩)
    refine ⟨some a, len, cap, (List.range len).map X, rfl, ⟨by simp, hl, hk, fun y hy => hf y, ?_⟩, ?_, ?_, ?_⟩
    · rcases Nat.eq_zero_or_pos len with h0 | h0
      · exact .inl h0
      · have hc0 := (hX 0 (by omega)).1
        obtain ⟨_, hl0, hc0⟩ := World.cells?_some hc0
        have hc1 := hc0 0 hk
        obtain ⟨v0, hv0⟩ : ∃ v0, (f (X 0))[0]? = some v0 := ⟨_, List.getElem?_eq_getElem (by rw [hf]; exact hk)⟩
        rw [hv0] at hc1
        have e0 : (a.add (0 * k)).add 0 = a := by simp [Addr.add]
        rw [e0] at hc1
        have hs := spot_none hc1
        refine .inr ⟨a.block, a.off, by rw [← hs], World.block_lt_of_cell? W a hc1, fun j y hy q v hv => ?_⟩
        have hj : j < len := by
          have := (List.getElem?_eq_some_iff.1 hy).1
          simpa using this
        rw [List.getElem?_map, List.getElem?_range hj] at hy
        simp at hy
        subst hy
        obtain ⟨_, hlj, hcj⟩ := World.cells?_some (hX j hj).1
        have hq : q < k := by have := (List.getElem?_eq_some_iff.1 hv).1; rwa [hf] at this
        have := hcj q hq
        rw [hv, hs, add_mk, add_mk, cell_of_hcell, Nat.add_assoc] at this
        exact this
    · intro y hy
      obtain ⟨i, hi, rfl⟩ := List.mem_map.1 hy
      exact (hX i (List.mem_range.1 hi)).2.1
    · have := wts_bulk X D (List.range len) (fun i hi => (hX i (List.mem_range.1 hi)).2.2)
      simp only [Rows.uptoBulk]
      omega
    · have h1 := bulk_length ((List.range len).map D)
      simp only [List.length_map, List.length_range] at h1
      simp only [Rows.uptoBulk]
      omega
end Go.Proofs.YtlhmehikajidhaaGreat
namespace Go.Proofs.YtlhmehikajidhaaGreat
open Go Go.Eng Go.Proofs Go.NatM Go.ChangeShapes Go.WideShapes Go.ChangeAt Go.RowKit Go.Deep
theorem len2 {α : Type} {l : List α} (h : l.length = 2) : ∃ a b, l = [a, b] := by
  match l, h with
  | [a, b], _ => exact ⟨a, b, rfl⟩
theorem len3 {α : Type} {l : List α} (h : l.length = 3) : ∃ a b c, l = [a, b, c] := by
  match l, h with
  | [a, b, c], _ => exact ⟨a, b, c, rfl⟩
def ivw (x : IV) : Nat := x.m.n
theorem open_int {H : Type} {enc : TypeId × Value → H} {W : World} {base : Nat} {spare : Nat → Bool} {held : Bool} (m : Nat) (cs : List Value) (x : DataW H × List MemPlace)
    (h : DataW.trod enc Tryz.prog W base spare held m 30 cs = some x) : ∃ y : IV, cs = ivc y ∧ GI W.heap y ∧ ivw y ≤ Rows.uptoBulk x.1 := by
  obtain ⟨xs, q, _, rfl, hl, hxl, hall⟩ := DataW.trod_struct Tryz.underlying30 h
  have hl' : cs.length = 2 := hl.trans (by kernel_rfl)
  have hxl' : xs.length = 2 := hxl.trans rfl
  obtain ⟨v0, v1, rfl⟩ := len2 hl'
  obtain ⟨x0, x1, rfl⟩ := len2 hxl'
  have cb : Tryz.prog.cellsOf 4 = 1 := by kernel_rfl
  have cu : Tryz.prog.cellsOf 28 = 1 := by kernel_rfl
  have h0 : DataW.trod enc Tryz.prog W base spare held q 4 (([v0, v1].drop 0).take (Tryz.prog.cellsOf 4)) = some x0 := hall 0 _ rfl
  rw [cb] at h0
  have h1 : DataW.trod enc Tryz.prog W base spare held q 28 (([v0, v1].drop 1).take (Tryz.prog.cellsOf 28)) = some x1 := hall 1 _ rfl
  rw [cu] at h1
  obtain ⟨b, e0, _⟩ := DataW.trod_bool Tryz.underlying4 h0
  obtain rfl : v0 = .bool b := by simpa using e0
  obtain ⟨y1, e1, s1, u1, m1⟩ := open_u64d Tryz.underlying28 Tryz.underlying42 (by kernel_rfl) h1
  obtain rfl : v1 = sav y1 := by simpa using e1
  refine ⟨⟨b, y1⟩, rfl, ⟨s1, u1⟩, ?_⟩
  simp only [ivw, List.map_cons, List.map_nil, Rows.uptoBulk, Rows.uptoBulkAll]
  omega
structure RM0 (H : Array Obj) (x : MV) : Prop where
  s : Sm 2 ivc H H.size x.A x.n x.k x.l
  g : ∀ y ∈ x.l, GI H y
theorem small_mat {H : Array Obj} {y : MV} {b : Nat} (h : b ≤ 1048576) (r : RM0 H y) (hn : wts ivw y.l ≤ b) : RM H y 1048576 := ⟨r.s, fun x hx => ⟨r.g x hx, Nat.le_trans (wts_mem (wt := ivw) hx) (Nat.le_trans hn h)⟩⟩
end Go.Proofs.YtlhmehikajidhaaGreat
namespace Go.Eng
open Go Go.RowKit
def flagless : Value → Bool
  | .bool _ => false
  | _ => true
structure DE (F : Nat → Prop) (H H' : Array Obj) : Prop where
  size : H.size ≤ H'.size
  block : ∀ (k : Nat) (cs : Array Value) (t : TypeId) (x : Nat × Nat), H[k]? = some (.cells cs t x) → F k ∨ cs.toList.all noU64 = false → H'[k]? = H[k]?
theorem DE.ext {F : Nat → Prop} {w w' : World} (h : Ext w w') : DE F w.heap w'.heap := ⟨h.size, fun k cs t x hk _ => h.block k (Array.getElem?_eq_some_iff.1 hk).1⟩
theorem DE.mono {F F' : Nat → Prop} {H H' : Array Obj} (h : DE F H H') (hF : ∀ k, F' k → F k) : DE F' H H' := ⟨h.size, fun k cs t x hk hc => h.block k cs t x hk (hc.imp (hF k) id)⟩
theorem DE.upd {F : Nat → Prop} {w w' : World} {b : Nat} {t : TypeId} {cs : List Value} (hu : Upd b w w') (hV : Vr w.heap b t cs) (hc : cs.all noU64 = true) (hF : ¬ F b) : DE F w.heap w'.heap :=
  ⟨Nat.le_of_eq hu.size.symm, fun k cs' t' x hk hd => by
    refine hu.block k fun e => ?_
    subst e
    unfold Vr at hV
    rw [hV] at hk
    cases hk
    simp only [List.toList_toArray] at hd
    rw [hc] at hd
    rcases hd with hd | hd
    · exact hF hd
    · cases hd⟩
theorem hcell_eq {H H' : Array Obj} {b i : Nat} {v : Value} (h : H'[b]? = H[b]?) (hv : hcell H b i = some v) : hcell H' b i = some v := by
  unfold hcell at hv ⊢
  rw [h]; exact hv
theorem hcell_obj {H : Array Obj} {b i : Nat} {v : Value} (hv : hcell H b i = some v) : ∃ (cs : Array Value) (t : TypeId) (x : Nat × Nat), H[b]? = some (.cells cs t x) ∧ v ∈ cs.toList := by
  unfold hcell at hv
  split at hv
  · rename_i cs t x hb
    exact ⟨cs, t, x, hb, by rw [Array.mem_toList_iff]; exact Array.mem_of_getElem? hv⟩
  · cases hv
theorem all_false {f : Value → Bool} {l : List Value} {v : Value} (h : v ∈ l) (hf : f v = false) : l.all f = false := by
  cases hq : l.all f with
  | false => rfl
  | true => rw [List.all_eq_true.1 hq v h] at hf; cases hf
def fpA (A : Option Addr) (n : Nat) (k : Nat) : Prop := 0 < n ∧ ∃ o, A = some ⟨k, o, none⟩
theorem Sl.de {F : Nat → Prop} {H H' : Array Obj} {B n c : Nat} {A : Option Addr} {l : List Nat} (hd : DE F H H') (h : Sl u64v H B A n c l) : Sl u64v H' B A n c l := by
  refine ⟨h.len, h.cap, ?_⟩
  rcases h.mem with h0 | ⟨b, o, e, hlt, hm⟩
  · exact .inl h0
  · rcases Nat.eq_zero_or_pos n with h0 | h0
    · exact .inl h0
    · have hl : 0 < l.length := by have := h.len; omega
      have h1 := hm 0 l[0] (List.getElem?_eq_getElem hl)
      obtain ⟨cs, t, x, hb, hv⟩ := hcell_obj h1
      have hq := hd.block b cs t x hb (.inr (all_false hv rfl))
      exact .inr ⟨b, o, e, hlt, fun j x hx => hcell_eq hq (hm j x hx)⟩
theorem Sm.de {α : Type} {k : Nat} {f : α → List Value} {F : Nat → Prop} {H H' : Array Obj} {B n c : Nat} {A : Option Addr} {l : List α} (hF : ∀ b, fpA A n b → F b) (hd : DE F H H') (h : Sm k f H B A n c l) : Sm k f H' B A n c l := by
  refine ⟨h.len, h.cap, h.pos, h.wid, ?_⟩
  rcases h.in_heap with h0 | ⟨b, o, e, hlt, hh, hm⟩
  · exact .inl h0
  · rcases Nat.eq_zero_or_pos n with h0 | h0
    · exact .inl h0
    · have hl : 0 < l.length := by have := h.len; omega
      have hw := h.wid l[0] (List.getElem_mem hl)
      have hp := h.pos
      have h1 := hm 0 l[0] (List.getElem?_eq_getElem hl) 0 (f l[0])[0] (List.getElem?_eq_getElem (by omega))
      obtain ⟨cs, t, x, hb, hv⟩ := hcell_obj h1
      have hq := hd.block b cs t x hb (.inl (hF b ⟨h0, o, e⟩))
      exact .inr ⟨b, o, e, hlt, fun j x hx q v hv => hcell_eq hq (hm j x hx q v hv)⟩
theorem Sm.fp_lt {α : Type} {k : Nat} {f : α → List Value} {H : Array Obj} {n c : Nat} {A : Option Addr} {l : List α} (h : Sm k f H H.size A n c l) {b : Nat} (hb : fpA A n b) : b < H.size := by
  obtain ⟨h0, o, e⟩ := hb
  rcases h.mem with h1 | ⟨b', o', e', hlt, _⟩
  · omega
  · rw [e] at e'; cases e'; exact hlt
theorem Sm.fp_flag {H : Array Obj} {B n c b : Nat} {A : Option Addr} {l : List IV} {t : TypeId} {cs : List Value} (h : Sm 2 ivc H B A n c l) (hb : fpA A n b) (hV : Vr H b t cs) (hc : cs.all flagless = true) : False := by
  obtain ⟨h0, o, e⟩ := hb
  rcases h.mem with h1 | ⟨b', o', e', hlt, hm⟩
  · omega
  · rw [e] at e'; cases e'
    have hl : 0 < l.length := by have := h.len; omega
    have h1 := hm 0 l[0] (List.getElem?_eq_getElem hl) 0 (.bool l[0].neg) rfl
    rw [hV.cell] at h1
    have h2 := List.all_eq_true.1 hc _ (List.mem_of_getElem? h1)
    cases h2
structure Exs (S : Nat → Prop) (w w' : World) : Prop where
  os : w'.os = w.os
  tape : w'.tape = w.tape
  output : w'.output = w.output
  size : w.heap.size ≤ w'.heap.size
  block : ∀ k, k < w.heap.size → ¬ S k → w'.heap[k]? = w.heap[k]?
theorem Exs.refl (S : Nat → Prop) (w : World) : Exs S w w := ⟨rfl, rfl, rfl, Nat.le_refl _, fun _ _ _ => rfl⟩
theorem Exs.of {S : Nat → Prop} {w w' : World} (h : Ext w w') : Exs S w w' := ⟨h.os, h.tape, h.output, h.size, fun k hk _ => h.block k hk⟩
theorem Exs.trans {S : Nat → Prop} {a b c : World} (h : Exs S a b) (k : Exs S b c) : Exs S a c :=
  ⟨k.os.trans h.os, k.tape.trans h.tape, k.output.trans h.output, Nat.le_trans h.size k.size, fun i hi hs => (k.block i (Nat.lt_of_lt_of_le hi h.size) hs).trans (h.block i hi hs)⟩
theorem Exs.mono {S S' : Nat → Prop} {a b : World} (h : Exs S a b) (hs : ∀ k, k < a.heap.size → S k → S' k) : Exs S' a b := ⟨h.os, h.tape, h.output, h.size, fun k hk hn => h.block k hk fun e => hn (hs k hk e)⟩
theorem Exs.ext {S : Nat → Prop} {a b : World} (h : Exs S a b) (hs : ∀ k, k < a.heap.size → ¬ S k) : Ext a b := ⟨h.os, h.tape, h.output, h.size, fun k hk => h.block k hk (hs k hk)⟩
theorem Exs.ext0 {a b : World} (h : Exs (fun _ => False) a b) : Ext a b := h.ext fun _ _ h => h
theorem Exs.then {S S' : Nat → Prop} {w0 a b : World} (h : Exs S w0 a) (k : Exs S' a b) (hs : ∀ i, i < w0.heap.size → S' i → S i) : Exs S w0 b :=
  ⟨k.os.trans h.os, k.tape.trans h.tape, k.output.trans h.output, Nat.le_trans h.size k.size, fun i hi hn => (k.block i (Nat.lt_of_lt_of_le hi h.size) fun e => hn (hs i hi e)).trans (h.block i hi hn)⟩
theorem Upd.exs {g : Nat} {w w' : World} (h : Upd g w w') : Exs (fun k => k = g) w w' := ⟨h.os, h.tape, h.output, Nat.le_of_eq h.size.symm, fun k _ hn => h.block k hn⟩
structure DP where
  p : Array Obj → Prop
  fp : Nat → Prop
  lt : ∀ H k, p H → fp k → k < H.size
  st : ∀ H H', DE fp H H' → p H → p H'
structure VB where
  b : Nat
  t : TypeId
  cs : List Value
structure Fr (w0 w : World) (L : List VB) (D : List DP) (S : Nat → Prop := fun _ => False) : Prop where
  exs : Exs S w0 w
  vars : ∀ v ∈ L, (w0.heap.size ≤ v.b ∨ S v.b) ∧ Vr w.heap v.b v.t v.cs
  dist : L.Pairwise (fun x y => x.b ≠ y.b)
  data : ∀ d ∈ D, d.p w.heap
  apart : ∀ v ∈ L, ∀ d ∈ D, ¬ d.fp v.b
inductive InV : List VB → Nat → TypeId → List Value → Prop
  | head {L : List VB} {b : Nat} {t : TypeId} {cs : List Value} : InV (⟨b, t, cs⟩ :: L) b t cs
  | tail {x : VB} {L : List VB} {b : Nat} {t : TypeId} {cs : List Value} : InV L b t cs → InV (x :: L) b t cs
theorem InV.mem {L : List VB} {b : Nat} {t : TypeId} {cs : List Value} (h : InV L b t cs) : ⟨b, t, cs⟩ ∈ L := by
  induction h with
  | head => exact List.mem_cons_self ..
  | tail _ ih => exact List.mem_cons_of_mem _ ih
inductive SetV : List VB → Nat → TypeId → List Value → List Value → List VB → Prop
  | head {L : List VB} {b : Nat} {t : TypeId} {cs r : List Value} : SetV (⟨b, t, cs⟩ :: L) b t cs r (⟨b, t, r⟩ :: L)
  | tail {x : VB} {L L' : List VB} {b : Nat} {t : TypeId} {cs r : List Value} : SetV L b t cs r L' → SetV (x :: L) b t cs r (x :: L')
theorem SetV.inV {L L' : List VB} {b : Nat} {t : TypeId} {cs r : List Value} (h : SetV L b t cs r L') : InV L b t cs := by
  induction h with
  | head => exact .head
  | tail _ ih => exact .tail ih
theorem SetV.split {L L' : List VB} {b : Nat} {t : TypeId} {cs r : List Value} (h : SetV L b t cs r L') : ∃ pre post, L = pre ++ ⟨b, t, cs⟩ :: post ∧ L' = pre ++ ⟨b, t, r⟩ :: post := by
  induction h with
  | head => exact ⟨[], _, rfl, rfl⟩
  | @tail x L L' _ _ _ _ _ ih =>
    obtain ⟨pre, post, h1, h2⟩ := ih
    exact ⟨x :: pre, post, by rw [h1]; rfl, by rw [h2]; rfl⟩
theorem memH {d : DP} {D : List DP} : d ∈ d :: D := List.mem_cons_self ..
theorem memT {d x : DP} {D : List DP} (h : d ∈ D) : d ∈ x :: D := List.mem_cons_of_mem _ h
section
variable {S : Nat → Prop} {w0 w w' : World} {L L' : List VB} {D D' : List DP} {b : Nat} {t : TypeId} {cs r : List Value}
theorem Fr.refl (w : World) : Fr w w [] [] := ⟨Exs.refl _ _, fun _ h => (by cases h), List.Pairwise.nil, fun _ h => (by cases h), fun _ h => (by cases h)⟩
theorem Fr.ext (h : Fr w0 w L D) : Ext w0 w := h.exs.ext0
theorem Fr.add (h : Fr w0 w L D S) (d : DP) (hd : d.p w.heap) (ha : ∀ v ∈ L, ¬ d.fp v.b) : Fr w0 w L (d :: D) S := ⟨h.exs, h.vars, h.dist, fun x hx => by
  rcases List.mem_cons.1 hx with rfl | hx
  · exact hd
  · exact h.data x hx, fun v hv x hx => by
  rcases List.mem_cons.1 hx with rfl | hx
  · exact ha v hv
  · exact h.apart v hv x hx⟩
theorem Fr.exts (h : Fr w0 w L D S) (hE : Ext w w') : Fr w0 w' L D S :=
  ⟨h.exs.trans (.of hE), fun v hv => ⟨(h.vars v hv).1, (h.vars v hv).2.ext hE⟩, h.dist, fun d hd => d.st _ _ (DE.ext hE) (h.data d hd), h.apart⟩
theorem Fr.addNew (h : Fr w0 w L D S) (hE : Ext w w') (d : DP) (hd : d.p w'.heap) (hn : ∀ k, d.fp k → w.heap.size ≤ k) : Fr w0 w' L (d :: D) S :=
  (h.exts hE).add d hd fun v hv hk => by have h1 := (h.vars v hv).2.lt; have h2 := hn _ hk; omega
theorem Fr.var (h : Fr w0 w L D S) (hv : InV L b t cs) : Vr w.heap b t cs := (h.vars _ hv.mem).2
theorem Fr.lo (h : Fr w0 w L D S) (hv : InV L b t cs) : w0.heap.size ≤ b ∨ S b := (h.vars _ hv.mem).1
theorem Fr.new (h : Fr w0 w L D S) (hb : b = w.heap.size) (hV : Vr w'.heap b t cs) (hE : Ext w w') : Fr w0 w' (⟨b, t, cs⟩ :: L) D S := by
  have h1 := h.exts hE
  refine ⟨h1.exs, fun v hv => ?_, List.pairwise_cons.2 ⟨fun v hv e => ?_, h.dist⟩, h1.data, fun v hv d hd => ?_⟩
  · rcases List.mem_cons.1 hv with rfl | hv
    · exact ⟨.inl (by rw [hb]; exact h.exs.size), hV⟩
    · exact h1.vars v hv
  · have := (h.vars v hv).2.lt
    simp only at e
    omega
  · rcases List.mem_cons.1 hv with rfl | hv
    · intro hk
      have := d.lt _ _ (h.data d hd) hk
      simp only at this
      omega
    · exact h.apart v hv d hd
theorem Fr.store (h : Fr w0 w L D S) (hS : SetV L b t cs r L') (hc : cs.all noU64 = true) (hu : Upd b w w') (hV : Vr w'.heap b t r) : Fr w0 w' L' D S := by
  have hb := h.lo hS.inV
  have hap := fun d hd => h.apart _ hS.inV.mem d hd
  refine ⟨h.exs.then hu.exs (fun i hi e => by subst e; rcases hb with hb | hb; omega; exact hb), ?_, ?_, fun d hd => d.st _ _ (DE.upd hu (h.var hS.inV) hc (hap d hd)) (h.data d hd), ?_⟩
  · intro v hv
    obtain ⟨pre, post, e1, e2⟩ := hS.split
    subst e1 e2
    have hdist := h.dist
    rw [List.pairwise_append] at hdist
    have hq : ∀ v, v ∈ pre ∨ v ∈ post → (w0.heap.size ≤ v.b ∨ S v.b) ∧ Vr w'.heap v.b v.t v.cs := by
      intro v hv
      have hm : v ∈ pre ++ (⟨b, t, cs⟩ : VB) :: post := by
        rcases hv with hv | hv
        · exact List.mem_append_left _ hv
        · exact List.mem_append_right _ (List.mem_cons_of_mem _ hv)
      have hne : v.b ≠ b := by
        rcases hv with hv | hv
        · exact hdist.2.2 v hv _ (List.mem_cons_self ..)
        · exact fun e => (List.pairwise_cons.1 hdist.2.1).1 v hv e.symm
      exact ⟨(h.vars v hm).1, (h.vars v hm).2.upd hu hne⟩
    rcases List.mem_append.1 hv with hv | hv
    · exact hq v (.inl hv)
    · rcases List.mem_cons.1 hv with rfl | hv
      · exact ⟨hb, hV⟩
      · exact hq v (.inr hv)
  · obtain ⟨pre, post, e1, e2⟩ := hS.split
    subst e1 e2
    have hdist := h.dist
    rw [List.pairwise_append, List.pairwise_cons] at hdist ⊢
    refine ⟨hdist.1, ⟨fun v hv => hdist.2.1.1 v hv, hdist.2.1.2⟩, fun x hx y hy => ?_⟩
    rcases List.mem_cons.1 hy with rfl | hy
    · exact hdist.2.2 x hx ⟨b, t, cs⟩ (List.mem_cons_self ..)
    · exact hdist.2.2 x hx y (List.mem_cons_of_mem _ hy)
  · intro v hv d hd
    obtain ⟨pre, post, e1, e2⟩ := hS.split
    subst e1 e2
    rcases List.mem_append.1 hv with hv | hv
    · exact h.apart v (List.mem_append_left _ hv) d hd
    · rcases List.mem_cons.1 hv with rfl | hv
      · exact hap d hd
      · exact h.apart v (List.mem_append_right _ (List.mem_cons_of_mem _ hv)) d hd
theorem Fr.weak (h : Fr w0 w L' D' S) (hL : L.Sublist L') (hD : ∀ d ∈ D, d ∈ D') : Fr w0 w L D S := ⟨h.exs, fun v hv => h.vars v (hL.subset hv), h.dist.sublist hL, fun d hd => h.data d (hD d hd), fun v hv d hd => h.apart v (hL.subset hv) d (hD d hd)⟩
theorem allH {x : DP} {D D' : List DP} (hx : x ∈ D') (h : ∀ d ∈ D, d ∈ D') : ∀ d ∈ x :: D, d ∈ D' := fun d hd => by
  rcases List.mem_cons.1 hd with rfl | hd
  · exact hx
  · exact h d hd
theorem allN {D' : List DP} : ∀ d ∈ ([] : List DP), d ∈ D' := fun _ h => (by cases h)
theorem allR {D : List DP} : ∀ d ∈ D, d ∈ D := fun _ h => h
theorem allT {x : DP} {D D' : List DP} (h : ∀ d ∈ D, d ∈ D') : ∀ d ∈ D, d ∈ x :: D' := fun d hd => List.mem_cons_of_mem _ (h d hd)
theorem Fr.get (h : Fr w0 w L D S) {d : DP} (hd : d ∈ D) : d.p w.heap := h.data d hd
end
/-! ### Steps -/
section
variable {P : Program} {N : Fm} {Q : Exit → Act → World → Prop} {σ : Store} {S : Nat → Prop} {w0 w : World} {L : List VB} {D : List DP} {ops : Array Oper} {d : Nat} {t : TypeId} {pos : String} {af : Array Edge} {rest : List Oper} {l : List Oper}
theorem T.regionFr (hF : Fr w0 w L D S) (id : Nat) (f : Nat) (t : Rt) (hm : P.follows .mixedOrders = true) (hB : treeB l.toArray f t = true)
    (h : ∀ w1 : World, Fr w0 w1 L D S → TF P N l Q (fun w' => Fr w0 w' L D S) f t σ w1) : T P N (.region id l.toArray true) Q σ w :=
  T.regionF _ f t hm hB (hF.exts (ext_drewN w 1)) (h _ (hF.exts (ext_drewN w 1)))
theorem TL.nilFr (hF : Fr w0 w L D S) (h : ∀ w1 : World, Fr w0 w1 L D S → G N .normal Q σ w1) : TL P N .quiet ops Q [] σ w := TL.nilQ fun n => h _ (hF.exts (ext_drewN w n))
theorem TL.boxFr (hF : Fr w0 w L D S) {x : Operand} {ty : TypeId} {v : Value} (hx : look σ x = some v) (hd : Nat.blt d N.n = true)
    (K : ∀ w' b, Fr w0 w' (⟨b, ty, v.cells.toList⟩ :: L) D S → TL P N .seq ops Q rest ((d, .pointer (some ⟨b, 0, none⟩)) :: σ) w') :
    TL P N .seq ops Q (⟨some d, .box ty x, t, pos, af, none⟩ :: rest) σ w :=
  TL.box hx hd fun w' b hb hV hE _ => K w' b (hF.new hb hV hE)
theorem TL.boxAFr (hF : Fr w0 w L D S) {x : Operand} {ty : TypeId} {cs : List Value} (hx : look σ x = some (.agg cs.toArray)) (hd : Nat.blt d N.n = true)
    (K : ∀ w' b, Fr w0 w' (⟨b, ty, cs⟩ :: L) D S → TL P N .seq ops Q rest ((d, .pointer (some ⟨b, 0, none⟩)) :: σ) w') :
    TL P N .seq ops Q (⟨some d, .box ty x, t, pos, af, none⟩ :: rest) σ w :=
  TL.boxA hx hd fun w' b hb hV hE _ => K w' b (hF.new hb hV hE)
theorem TL.allocFr (hF : Fr w0 w L D S) {ty : TypeId} {z : Value} {sz b1 : Nat} [hS : USize P ty z sz b1] {cs : List Value} (hz : z.cells.toList = cs) (hd : Nat.blt d N.n = true)
    (K : ∀ w' b, Fr w0 w' (⟨b, ty, cs⟩ :: L) D S → TL P N .seq ops Q rest ((d, .pointer (some ⟨b, 0, none⟩)) :: σ) w') :
    TL P N .seq ops Q (⟨some d, .alloc ty, t, pos, af, none⟩ :: rest) σ w :=
  TL.alloc hd fun w' b hb hV hE _ => K w' b (hF.new hb (by rw [← hz]; exact hV) hE)
theorem TL.storeAFr (hF : Fr w0 w L D S) {x y : Operand} {ty e : TypeId} {z : Value} {sz b1 : Nat} [hS : USize P ty z sz b1] {b o : Nat} {cs r vs : List Value} {L' : List VB} (hx : look σ x = some (.pointer (some ⟨b, o, none⟩))) (hy : look σ y = some (.agg vs.toArray))
    (hsz : Nat.beq vs.length sz = true) (h1 : vs.all (·.oneCell') = true) (h : SetV L b e cs r L' ∧ putO cs o vs = some r) (hc : cs.all noU64 = true)
    (K : ∀ w', Fr w0 w' L' D S → TL P N .seq ops Q rest σ w') : TL P N .seq ops Q (⟨none, .store ty x y, t, pos, af, none⟩ :: rest) σ w :=
  TL.storeVA hx hy hsz h1 (hF.var h.1.inV) h.2 fun w' h1 h2 => K w' (hF.store h.1 hc h2 h1)
theorem TL.storeFr (hF : Fr w0 w L D S) {x y : Operand} {ty e : TypeId} {z : Value} {b1 : Nat} [hS : USize P ty z 1 b1] {b o : Nat} {cs r : List Value} {v : Value} {L' : List VB} (hx : look σ x = some (.pointer (some ⟨b, o, none⟩))) (hy : look σ y = some v) (hvs : v.cells.toList = [v]) (h1 : v.oneCell' = true) (h : SetV L b e cs r L' ∧ putO cs o [v] = some r) (hc : cs.all noU64 = true)
    (K : ∀ w', Fr w0 w' L' D S → TL P N .seq ops Q rest σ w') : TL P N .seq ops Q (⟨none, .store ty x y, t, pos, af, none⟩ :: rest) σ w :=
  TL.storeV hx hy hvs h1 (hF.var h.1.inV) h.2 fun w' h1 h2 => K w' (hF.store h.1 hc h2 h1)
end
section
variable {P : Program} {σ : Store} {d : Option Tmp} {t : TypeId} {pos : String} {af : Array Edge} {gd : Option (Nat × Bool)} {S : Nat → Prop} {w0 w : World} {L : List VB} {D : List DP}
theorem ev_loadFr (hF : Fr w0 w L D S) {x : Operand} {ty e : TypeId} [hO : UOne P ty] {b o : Nat} {cs : List Value} {v : Value} (hx : look σ x = some (.pointer (some ⟨b, o, none⟩))) (h : InV L b e cs ∧ nthV cs o = some v) : Ev P σ w.heap ⟨d, .load ty x, t, pos, af, gd⟩ v := ev_loadV hx (hF.var h.1) h.2
theorem ev_loadAFr (hF : Fr w0 w L D S) {x : Operand} {ty e : TypeId} [hA : UAgg P ty] {z : Value} {sz b1 : Nat} [hS : USize P ty z sz b1] {b o : Nat} {cs cs' : List Value} (hx : look σ x = some (.pointer (some ⟨b, o, none⟩))) (h : InV L b e cs ∧ subV cs o sz = some cs') :
    Ev P σ w.heap ⟨d, .load ty x, t, pos, af, gd⟩ (.agg cs'.toArray) := ev_loadVA hx (hF.var h.1) h.2
end
/-! ### Kinds of operations and judgements, for quick choices -/
section
variable {P : Program} {N : Fm} {q : Md} {Q : Exit → Act → World → Prop} {S : World → Prop} {σ : Store} {H : Array Obj} {w : World} {ops : Array Oper} {d : Option Tmp} {t : TypeId} {pos : String} {af : Array Edge} {gd : Option (Nat × Bool)} {rest l : List Oper} {v : Value} {f : Nat}
theorem Ev.isBin {op : BinOp} {tx ty : TypeId} {x y : Operand} (h : Ev P σ H ⟨d, .binOp op tx x y ty, t, pos, af, gd⟩ v) : Ev P σ H ⟨d, .binOp op tx x y ty, t, pos, af, gd⟩ v := h
theorem Ev.isLoad {ty : TypeId} {x : Operand} (h : Ev P σ H ⟨d, .load ty x, t, pos, af, gd⟩ v) : Ev P σ H ⟨d, .load ty x, t, pos, af, gd⟩ v := h
theorem TL.isG {op : Op} {g : Nat × Bool} (h : TL P N q ops Q (⟨d, op, t, pos, af, some g⟩ :: rest) σ w) : TL P N q ops Q (⟨d, op, t, pos, af, some g⟩ :: rest) σ w := h
theorem TL.isCall {f : FuncId} {xs : Array Operand} {tys : Array TypeId} (h : TL P N q ops Q (⟨d, .call { callee := .value (.func f), args := xs, argTypes := tys }, t, pos, af, none⟩ :: rest) σ w) : TL P N q ops Q (⟨d, .call { callee := .value (.func f), args := xs, argTypes := tys }, t, pos, af, none⟩ :: rest) σ w := h
theorem TL.isOp {o : Oper} (h : TL P N q ops Q (o :: rest) σ w) : TL P N q ops Q (o :: rest) σ w := h
theorem TL.isBin {op : BinOp} {tx ty : TypeId} {x y : Operand} (h : TL P N q ops Q (⟨d, .binOp op tx x y ty, t, pos, af, gd⟩ :: rest) σ w) : TL P N q ops Q (⟨d, .binOp op tx x y ty, t, pos, af, gd⟩ :: rest) σ w := h
theorem T.is {c : Code} (h : T P N c Q σ w) : T P N c Q σ w := h
theorem G.is {e : Exit} (h : G N e Q σ w) : G N e Q σ w := h
def TFo (P : Program) (N : Fm) (l : List Oper) (Q : Exit → Act → World → Prop) (S : World → Prop) (f : Nat) (t : Rt) (o : Oper) (σ : Store) (w : World) : Prop :=
  ∀ a, Rep N σ a → ∃ v, YieldsIf P l.toArray S o v a ∧ wpTree P l.toArray (Only Q) S f t (a.put o.dst v) w
theorem TF.pick {i : Nat} {tr : Rt} {o : Oper} (hi : pick1 l i = some o) (h : TFo P N l Q S f tr o σ w) : TF P N l Q S f (.s i tr) σ w := by
  unfold TF
  intro a ha
  obtain ⟨v, h1, h2⟩ := h a ha
  exact ⟨o, v, pick_at hi, h1, h2⟩
theorem TFo.ev {tr : Rt} {op : Op} {ty : TypeId} {d : Nat} (h : ∀ w', S w' → Ev P σ w'.heap ⟨some d, op, ty, pos, af, none⟩ v) (hd : Nat.blt d N.n = true) (k : TF P N l Q S f tr ((d, v) :: σ) w) : TFo P N l Q S f tr ⟨some d, op, ty, pos, af, none⟩ σ w := by
  unfold TF at k
  exact fun a ha => ⟨v, .inl ⟨by simp [Region.wanted], fun w' hw' => by have := h w' hw'; unfold Ev at this; exact this _ w' ha.agree rfl⟩, k _ (ha.put hd v)⟩
theorem TFo.evg {tr : Rt} {op : Op} {ty : TypeId} {d : Nat} {j s : Nat} {want b : Bool} (hj : (pick1 l j).bind (·.dst) = some s) (hb : look1 σ s = some (.bool b)) (heq : (b == want) = true)
    (h : ∀ w', S w' → Ev P σ w'.heap ⟨some d, op, ty, pos, af, some (j, want)⟩ v) (hd : Nat.blt d N.n = true) (k : TF P N l Q S f tr ((d, v) :: σ) w) : TFo P N l Q S f tr ⟨some d, op, ty, pos, af, some (j, want)⟩ σ w := by
  unfold TF at k
  refine fun a ha => ⟨v, .inl ⟨?_, fun w' hw' => by have := h w' hw'; unfold Ev at this; exact this _ w' ha.agree rfl⟩, k _ (ha.put hd v)⟩
  have hj' : (l.toArray[j]?).bind (·.dst) = some s := by rw [List.getElem?_toArray, ← pick1_eq]; exact hj
  simp only [Region.wanted, yielded_of ha hj' hb]
  cases b <;> cases want <;> simp_all
theorem TFo.skip {tr : Rt} {op : Op} {ty : TypeId} {d : Nat} {j s : Nat} {want b : Bool} (hj : (pick1 l j).bind (·.dst) = some s) (hb : look1 σ s = some (.bool b)) (heq : (b == want) = false)
    (hd : Nat.blt d N.n = true) (k : TF P N l Q S f tr ((d, undef) :: σ) w) : TFo P N l Q S f tr ⟨some d, op, ty, pos, af, some (j, want)⟩ σ w := by
  unfold TF at k
  refine fun a ha => ⟨undef, .inr ⟨?_, rfl⟩, k _ (ha.put hd undef)⟩
  have hj' : (l.toArray[j]?).bind (·.dst) = some s := by rw [List.getElem?_toArray, ← pick1_eq]; exact hj
  simp only [Region.wanted, yielded_of ha hj' hb]
  cases b <;> cases want <;> simp_all
theorem TFo.skipU {tr : Rt} {op : Op} {ty : TypeId} {d : Nat} {j s : Nat} {want : Bool} (hj : (pick1 l j).bind (·.dst) = some s) (hb : look1 σ s = some undef)
    (hd : Nat.blt d N.n = true) (k : TF P N l Q S f tr ((d, undef) :: σ) w) : TFo P N l Q S f tr ⟨some d, op, ty, pos, af, some (j, want)⟩ σ w := by
  unfold TF at k
  refine fun a ha => ⟨undef, .inr ⟨?_, rfl⟩, k _ (ha.put hd undef)⟩
  have hj' : (l.toArray[j]?).bind (·.dst) = some s := by rw [List.getElem?_toArray, ← pick1_eq]; exact hj
  have hy : yielded l.toArray a.tmps j = none := by
    have h := ha.get s _ hb
    unfold yielded
    rw [hj']
    simp only [Option.bind_some]
    rw [Array.getD_eq_getD_getElem?] at h
    cases hx : a.tmps[s]? with
    | none => rfl
    | some v => rw [hx] at h; simp at h; subst h; rfl
  simp only [Region.wanted, hy]; rfl
theorem TFo.is {tr : Rt} {o : Oper} (h : TFo P N l Q S f tr o σ w) : TFo P N l Q S f tr o σ w := h
theorem TF.is {tr : Rt} (h : TF P N l Q S f tr σ w) : TF P N l Q S f tr σ w := h
theorem ev_cmpG {op : BinOp} {tx ty : TypeId} {x y : Operand} {k : IntKind} {m n : Int} {p : Prop} [Decidable p] (hx : look σ x = some (.int k m)) (hy : look σ y = some (.int k n)) (hp : cmpP op m n = some p) : Ev P σ H ⟨d, .binOp op tx x y ty, t, pos, af, gd⟩ (.bool (decide p)) := by
  unfold cmpP at hp
  split at hp <;> first | cases hp; done | skip
  all_goals (cases hp)
  · exact ev_lss hx hy (by congr)
  · exact ev_leq hx hy (by congr)
  · exact ev_gtr hx hy (by congr)
  · exact ev_geq hx hy (by congr)
  · exact ev_eql hx hy (by congr)
  · exact ev_neq hx hy (by by_cases h : m = n <;> simp [h])
theorem TFo.cmpG {tr : Rt} {op : BinOp} {tx ty ty' : TypeId} {x y : Operand} {k : IntKind} {m n : Int} {p : Prop} {d : Nat} (hx : look σ x = some (.int k m)) (hy : look σ y = some (.int k n)) (hp : cmpP op m n = some p) (hd : Nat.blt d N.n = true)
    (k1 : p → TF P N l Q S f tr ((d, .bool true) :: σ) w) (k0 : ¬ p → TF P N l Q S f tr ((d, .bool false) :: σ) w) : TFo P N l Q S f tr ⟨some d, .binOp op tx x y ty, ty', pos, af, none⟩ σ w := by
  have hdec := Classical.propDecidable p
  have he := fun H => ev_cmpG (P := P) (H := H) (d := some d) (t := ty') (pos := pos) (af := af) (gd := none) (tx := tx) (ty := ty) hx hy hp
  by_cases h : p
  · exact TFo.ev (fun w' _ => by have := he w'.heap; rw [decide_eq_true h] at this; exact this) hd (k1 h)
  · exact TFo.ev (fun w' _ => by have := he w'.heap; rw [decide_eq_false h] at this; exact this) hd (k0 h)
theorem TFo.cmpGg {tr : Rt} {op : BinOp} {tx ty ty' : TypeId} {x y : Operand} {k : IntKind} {m n : Int} {p : Prop} {d : Nat} {j s : Nat} {want b : Bool} (hj : (pick1 l j).bind (·.dst) = some s) (hb : look1 σ s = some (.bool b)) (heq : (b == want) = true) (hx : look σ x = some (.int k m)) (hy : look σ y = some (.int k n)) (hp : cmpP op m n = some p) (hd : Nat.blt d N.n = true)
    (k1 : p → TF P N l Q S f tr ((d, .bool true) :: σ) w) (k0 : ¬ p → TF P N l Q S f tr ((d, .bool false) :: σ) w) : TFo P N l Q S f tr ⟨some d, .binOp op tx x y ty, ty', pos, af, some (j, want)⟩ σ w := by
  have hdec := Classical.propDecidable p
  have he := fun H => ev_cmpG (P := P) (H := H) (d := some d) (t := ty') (pos := pos) (af := af) (gd := some (j, want)) (tx := tx) (ty := ty) hx hy hp
  by_cases h : p
  · exact TFo.evg hj hb heq (fun w' _ => by have := he w'.heap; rw [decide_eq_true h] at this; exact this) hd (k1 h)
  · exact TFo.evg hj hb heq (fun w' _ => by have := he w'.heap; rw [decide_eq_false h] at this; exact this) hd (k0 h)
end
attribute [irreducible] TFo
end Go.Eng
namespace Go.Proofs.YtlhmehikajidhaaGreat
open Go Go.Eng Go.Proofs Go.NatM Go.RowKit
theorem Sl.deS {F : Nat → Prop} {H H' : Array Obj} {n c : Nat} {A : Option Addr} {l : List Nat} (hd : DE F H H') (h : Sl u64v H H.size A n c l) : Sl u64v H' H'.size A n c l := (Sl.de hd h).size
theorem Sm.deS {F : Nat → Prop} {H H' : Array Obj} {n c : Nat} {A : Option Addr} {l : List IV} (hF : ∀ b, fpA A n b → F b) (hd : DE F H H') (h : Sm 2 ivc H H.size A n c l) : Sm 2 ivc H' H'.size A n c l := (Sm.de hF hd h).size
theorem GI.de {F : Nat → Prop} {H H' : Array Obj} {x : IV} (hd : DE F H H') (h : GI H x) : GI H' x := ⟨Sl.deS hd h.s, h.u⟩
theorem LI.de {F : Nat → Prop} {H H' : Array Obj} {x : IV} {z : Int} (hd : DE F H H') (h : LI H z x) : LI H' z x := ⟨h.g.de hd, h.d, h.e⟩
theorem GM.de {H H' : Array Obj} {x : MV} {r c K : Nat} (hd : DE (fpA x.A x.n) H H') (h : GM H x r c K) : GM H' x r c K := ⟨h.sh, Sm.deS (fun _ h => h) hd h.s, fun y hy => ⟨(h.g y hy).1.de hd, (h.g y hy).2⟩⟩
theorem LM.de {H H' : Array Obj} {x : MV} {r c K : Nat} {F : Nat → Nat → Int} (hd : DE (fpA x.A x.n) H H') (h : LM H x r c F K) : LM H' x r c F K := ⟨h.sh, Sm.deS (fun _ h => h) hd h.s, fun i j hi hj => ⟨(h.g i j hi hj).1.de hd, (h.g i j hi hj).2⟩⟩
theorem RM.de {H H' : Array Obj} {x : MV} {K : Nat} (hd : DE (fpA x.A x.n) H H') (h : RM H x K) : RM H' x K := ⟨Sm.deS (fun _ h => h) hd h.s, fun y hy => ⟨(h.g y hy).1.de hd, (h.g y hy).2⟩⟩
def dpSl (A : Option Addr) (n c : Nat) (l : List Nat) : DP := ⟨fun H => Sl u64v H H.size A n c l, fun _ => False, fun _ _ _ h => h.elim, fun _ _ hd h => Sl.deS hd h⟩
def dpSm (A : Option Addr) (n c : Nat) (l : List IV) : DP := ⟨fun H => Sm 2 ivc H H.size A n c l, fpA A n, fun _ _ h hk => h.fp_lt hk, fun _ _ hd h => Sm.deS (fun _ h => h) hd h⟩
def dpLI (z : Int) (x : IV) : DP := ⟨fun H => LI H z x, fun _ => False, fun _ _ _ h => h.elim, fun _ _ hd h => h.de hd⟩
def dpGM (x : MV) (r c K : Nat) : DP := ⟨fun H => GM H x r c K, fpA x.A x.n, fun _ _ h hk => h.s.fp_lt hk, fun _ _ hd h => h.de hd⟩
def dpLM (x : MV) (r c : Nat) (F : Nat → Nat → Int) (K : Nat) : DP := ⟨fun H => LM H x r c F K, fpA x.A x.n, fun _ _ h hk => h.s.fp_lt hk, fun _ _ hd h => h.de hd⟩
section
variable {S : Nat → Prop} {w0 w w' : World} {L : List VB} {D : List DP}
theorem mf_fp {x : MV} (h : MF w x) (k : Nat) (hk : fpA x.A x.n k) : w.heap.size ≤ k := by
  obtain ⟨h0, o, e⟩ := hk
  rcases h with h | ⟨b, e', hb⟩
  · omega
  · rw [e] at e'; cases e'; exact hb
theorem Fr.addSl (h : Fr w0 w L D S) {A : Option Addr} {n c : Nat} {l : List Nat} (k : Sl u64v w.heap w.heap.size A n c l) : Fr w0 w L (dpSl A n c l :: D) S := h.add _ k fun _ _ h => h
theorem Fr.addLI (h : Fr w0 w L D S) {x : IV} {z : Int} (k : LI w.heap z x) : Fr w0 w L (dpLI z x :: D) S := h.add _ k fun _ _ h => h
theorem Fr.addLM (h : Fr w0 w L D S) (hE : Ext w w') {x : MV} {r c K : Nat} {F : Nat → Nat → Int} (k : LM w'.heap x r c F K) (hf : MF w x) : Fr w0 w' L (dpLM x r c F K :: D) S := h.addNew hE _ k (mf_fp hf)
theorem Fr.sl (h : Fr w0 w L D S) {A : Option Addr} {n c : Nat} {l : List Nat} (hm : dpSl A n c l ∈ D) : Sl u64v w.heap w.heap.size A n c l := h.data _ hm
theorem Fr.sm (h : Fr w0 w L D S) {A : Option Addr} {n c : Nat} {l : List IV} (hm : dpSm A n c l ∈ D) : Sm 2 ivc w.heap w.heap.size A n c l := h.data _ hm
theorem Fr.li (h : Fr w0 w L D S) {x : IV} {z : Int} (hm : dpLI z x ∈ D) : LI w.heap z x := h.data _ hm
theorem Fr.gm (h : Fr w0 w L D S) {x : MV} {r c K : Nat} (hm : dpGM x r c K ∈ D) : GM w.heap x r c K := h.data _ hm
theorem Fr.lm (h : Fr w0 w L D S) {x : MV} {r c K : Nat} {F : Nat → Nat → Int} (hm : dpLM x r c F K ∈ D) : LM w.heap x r c F K := h.data _ hm
theorem Fr.moreLM {x : MV} {r c K K' : Nat} {F G : Nat → Nat → Int} (h : Fr w0 w L (dpLM x r c F K :: D) S) (hk : ∀ H, LM H x r c F K → LM H x r c G K') : Fr w0 w L (dpLM x r c G K' :: D) S :=
  (h.weak (List.Sublist.refl _) (fun d hd => List.mem_cons_of_mem _ hd)).add _ (hk _ (h.data _ (List.mem_cons_self ..))) fun v hv hq => h.apart v hv _ (List.mem_cons_self ..) hq
end
attribute [irreducible] dpSl dpSm dpLI dpGM dpLM
end Go.Proofs.YtlhmehikajidhaaGreat
namespace Go.Eng
open Go Go.RowKit
theorem made_flat {α : Type} {f : α → List Value} {u : α} {z : List Value} {c k : Nat} (hk : 0 < k) (hz : f u = z) (hl : z.length = k) : (madeCells z.toArray (c * k)).toList = (List.replicate c u).flatMap f := by
  have hw : ∀ x ∈ List.replicate c u, (f x).length = k := fun x hx => by rw [(List.mem_replicate.1 hx).2, hz, hl]
  apply List.ext_getElem?
  intro i
  rcases Nat.lt_or_ge i (c * k) with hi | hi
  · have h1 : i / k < c := Nat.div_lt_of_lt_mul (by rw [Nat.mul_comm]; exact hi)
    have h2 := flatMap_get hw (i / k) (i % k) u (by simp [h1]) (Nat.mod_lt _ hk)
    rw [Nat.div_add_mod'] at h2
    rw [h2, hz]
    have h3 : i % k < z.length := by rw [hl]; exact Nat.mod_lt _ hk
    simp [madeCells, hi, hl, List.getElem?_eq_getElem h3]
  · rw [List.getElem?_eq_none (by simp [madeCells]; exact hi), List.getElem?_eq_none (by rw [flatMap_len hw]; simp; exact hi)]
theorem flatMap_set {α : Type} {f : α → List Value} {k : Nat} (hw : ∀ x, (f x).length = k) (u : α) : ∀ (l : List α) (i : Nat), i < l.length → (l.flatMap f).take (i * k) ++ f u ++ (l.flatMap f).drop (i * k + k) = (l.set i u).flatMap f
  | [], i, h => by simp at h
  | y :: l, 0, h => by
    simp only [Nat.zero_mul, List.take_zero, List.nil_append, Nat.zero_add, List.set_cons_zero, List.flatMap_cons]
    rw [List.drop_append, List.drop_of_length_le (by rw [hw]; exact Nat.le_refl _), hw]; simp
  | y :: l, i + 1, h => by
    have ih := flatMap_set hw u l i (by simpa using h)
    simp only [List.set_cons_succ, List.flatMap_cons]
    rw [← ih]
    have e1 : (i + 1) * k = (f y).length + i * k := by rw [hw, Nat.add_mul, Nat.one_mul, Nat.add_comm]
    have e2 : (i + 1) * k + k = (f y).length + (i * k + k) := by rw [e1]; omega
    rw [e2, e1, List.take_length_add_append, List.drop_length_add_append]
    simp
section
variable {P : Program} {N : Fm} {Q : Exit → Act → World → Prop} {σ : Store} {S : Nat → Prop} {w0 w : World} {L : List VB} {D : List DP} {ops : Array Oper} {d : Nat} {t : TypeId} {pos : String} {af : Array Edge} {rest : List Oper}
theorem TL.makeFr (hF : Fr w0 w L D S) {α : Type} (f : α → List Value) (u : α) {x y : Operand} {ty e : TypeId} [hT : USlice P ty e] {z : List Value} {sz b1 : Nat} [hS : USize P e (.agg z.toArray) sz b1] {k k' : IntKind} {z1 z2 : Int} {n c : Nat} [e1 : IsN z1 n] [e2 : IsN z2 c]
    (hx : look σ x = some (.int k z1)) (hy : look σ y = some (.int k' z2)) (hd : Nat.blt d N.n = true) (hn : n ≤ c) (hc : b1 * c ≤ 281474976710656 ∧ c ≤ 9223372036854775807) (hu : f u = z) (hzl : Nat.beq z.length sz = true) (hz0 : Nat.blt 0 sz = true)
    (K : ∀ w' b, Fr w0 w' (⟨b, e, (List.replicate c u).flatMap f⟩ :: L) D S → TL P N .seq ops Q rest ((d, .slice (some ⟨b, 0, none⟩) n c) :: σ) w') :
    TL P N .seq ops Q (⟨some d, .makeSlice ty x y, t, pos, af, none⟩ :: rest) σ w := by
  obtain rfl := e1.out
  obtain rfl := e2.out
  obtain ⟨i, hi, hz0', hsz, hby⟩ := hS.info
  have hb : (i.bytes : Int) * (c : Int) ≤ 281474976710656 := by
    have h : ((i.bytes * c : Nat) : Int) ≤ 281474976710656 := by rw [hby]; omega
    rwa [Int.natCast_mul] at h
  have hr := fun (w : World) => run_make (P := P) w ty e i (.agg z.toArray) hT.out hi hz0' k k' (n : Int) (c : Int) (by omega) (by omega) hb (by omega)
  simp only [Int.toNat_natCast, hsz] at hr
  have hzl' := Nat.eq_of_beq_eq_true hzl
  have hsz0 : 0 < sz := by simpa [Nat.blt_eq] using hz0
  have hflat := made_flat (c := c) hsz0 hu hzl'
  refine TL.op (w' := w.alloc (.cells (madeCells z.toArray (c * sz)) e)) (fun ρ hρ => ?_) hd (K _ _ (hF.new rfl (t := e) ?_ (ext_alloc _ _)))
  · simp [execOp, hρ x _ hx, hρ y _ hy]
    have := hr w
    simp only [Value.cells] at this
    simp [this]
  · rw [← hflat]
    unfold Vr
    rw [heap_alloc]
theorem TL.storeAtFr (hF : Fr w0 w L D S) {α : Type} {f : α → List Value} {x y : Operand} {ty e : TypeId} {z : Value} {k b1 : Nat} [hS : USize P ty z k b1] {b i : Nat} {l : List α} (u : α) {vs : List Value} {L' : List VB}
    (hx : look σ x = some (.pointer (elemA (some ⟨b, 0, none⟩) (i * k)))) (hy : look σ y = some (.agg vs.toArray)) (hvs : f u = vs) (h1 : vs.all (·.oneCell') = true) (hw : ∀ x, (f x).length = k) (hi : i < l.length) (hn : (l.flatMap f).all noU64 = true)
    (hL : SetV L b e (l.flatMap f) ((l.set i u).flatMap f) L')
    (K : ∀ w', Fr w0 w' L' D S → TL P N .seq ops Q rest σ w') : TL P N .seq ops Q (⟨none, .store ty x y, t, pos, af, none⟩ :: rest) σ w := by
  subst hvs
  have hV := hF.var hL.inV
  have hlen : (l.flatMap f).length = l.length * k := flatMap_len fun x _ => hw x
  have hik : i * k + k ≤ l.length * k := by
    have h1 : (i + 1) * k ≤ l.length * k := Nat.mul_le_mul_right k hi
    rw [Nat.add_mul, Nat.one_mul] at h1
    exact h1
  obtain ⟨ii, hii, _, hsz', _⟩ := hS.info
  have hst := run_storeCells_at P b (0 + i * k) e (f u) 0 (l.flatMap f).toArray w hV (by simp only [List.size_toArray]; rw [hlen, hw]; omega) (fun v hv => List.all_eq_true.1 h1 v hv)
  simp only [Nat.add_zero, Nat.zero_add, hw] at hst
  rw [flatMap_set hw u l i hi] at hst
  refine TL.op0 (w' := w.setRow b ((l.set i u).flatMap f).toArray) (fun ρ hρ => ?_) (K _ (hF.store hL hn (upd_setRow _ _ _) ?_))
  · have e0 : look σ x = some (.pointer (some ⟨b, i * k, none⟩)) := by rw [hx]; simp [elemA, add_mk]
    simp [execOp, hρ x _ e0, hρ y _ hy, Instr.storeAt, Instr.sureAddr, storeVar, sizeOf, typeInfo, hii, hsz', Value.cells, hw]
    rw [hst]
    simp
  · unfold Vr at hV ⊢
    rw [setRow_heap w b _ _ e _ hV]
end
end Go.Eng
namespace Go.Eng
open Go Go.RowKit
section
variable {P : Program} {N : Fm} {Q : Exit → Act → World → Prop} {σ : Store} {S : Nat → Prop} {w0 w : World} {L : List VB} {D : List DP} {l : List Oper}
theorem T.regionFt {v : VB} (hF : Fr w0 w (v :: L) D S) (id : Nat) (f : Nat) (t : Rt) (hm : P.follows .mixedOrders = true) (hB : treeB l.toArray f t = true)
    (h : ∀ w1 : World, Fr w0 w1 (v :: L) D S → TF P N l Q (fun w' => Fr w0 w' L D S) f t σ w1) : T P N (.region id l.toArray true) Q σ w :=
  T.regionF _ f t hm hB ((hF.weak (List.Sublist.cons _ (List.Sublist.refl _)) allR).exts (ext_drewN w 1)) (h _ (hF.exts (ext_drewN w 1)))
end
def wideR (R : Option Nat) : Fence := { Fence.wide with round := R }
theorem calls_in {R : Option Nat} {n : Nat} {P : Program} {f : FuncId} {args : Array Value} {w : World} {Q : Ending → World → Prop} (h : Calls P f args w Q) : CallsIn (wideR R) n P f args w Q :=
  callsIn_wide (n := n).2 h
theorem rows_in {R : Option Nat} {n : Nat} {P : Program} {row : String} {args : Array Value} {w : World} {Q : Value → World → Prop} (h : Rows P row args w Q) : RowsIn (wideR R) n P row args w Q :=
  fun c cs _ => let ⟨v, w', r, s⟩ := h c cs; ⟨v, w', r, (stepsIn_wide (P := P)).2 s⟩
theorem upon_in {R : Option Nat} {n : Nat} {P : Program} {o : Oper} {a : Act} {next next' : Act → World → Prop} {Q Q' : Exit → Act → World → Prop} {r : Result Next} (hn : ∀ a w, next a w → next' a w) (hq : ∀ c a w, Q (.panic c) a w → Q' (.panic c) a w) (hl : ∀ a w, Q .outgrown a w → Q' .outgrown a w)
    (h : o.upon P a next Q r) : o.uponIn (wideR R) n P a next' Q' r := by
  unfold Oper.upon at h
  unfold Oper.uponIn
  split at h
  · exact hn _ _ h
  · exact hn _ _ h
  · exact hn _ _ h
  · refine ⟨fun e => (by cases e), calls_in (h.mono ?_)⟩
    intro e w' he
    cases e with
    | returned v => exact hn _ _ he
    | panicked c => exact hq _ _ _ he
    | outgrown => obtain ⟨a0, w0, h0⟩ := he; exact ⟨a0, w0, hl _ _ h0⟩
  · exact ⟨fun e => (by cases e), rows_in (h.mono fun v w' he => hn _ _ he)⟩
  · exact hq _ _ _ h
  · exact h.elim
def noDefer (o : Oper) : Bool := match o.op with
  | .defer _ => false
  | _ => true
theorem wp_in {R : Option Nat} {n : Nat} {P : Program} {o : Oper} {a : Act} {w : World} {next next' : Act → World → Prop} {Q Q' : Exit → Act → World → Prop} (hd : noDefer o = true) (hn : ∀ a w, next a w → next' a w) (hq : ∀ c a w, Q (.panic c) a w → Q' (.panic c) a w) (hl : ∀ a w, Q .outgrown a w → Q' .outgrown a w)
    (h : o.wp P a w next Q) : o.wpIn (wideR R) n P a w next' Q' := by
  refine ⟨fun _ _ => trivial, ?_⟩
  rw [Oper.semAt_eq _ _ _ (fun c e => by unfold noDefer at hd; rw [e] at hd; cases hd)]
  exact upon_in hn hq hl h
def NoOut (Q : Exit → Act → World → Prop) : Prop := ∀ a w, ¬ Q .outgrown a w
theorem NoOut.lets {Q : Exit → Act → World → Prop} (h : NoOut Q) : ¬ LetsOut Q := fun ⟨a, w, hq⟩ => h a w hq
theorem list_in {R : Option Nat} {n : Nat} {P : Program} {ops : Array Oper} {Q : Exit → Act → World → Prop} (hno : NoOut Q) : ∀ (l : List Oper) (a : Act) (w : World), l.all noDefer = true → wpList P ops Q l a w → wpListIn (wideR R) n P ops Q l a w
  | [], a, w, _, h => h
  | o :: rest, a, w, hd, h => by
    simp only [List.all_cons, Bool.and_eq_true] at hd
    unfold wpListIn
    unfold wpList at h
    by_cases hw : Region.wanted o (yielded ops a.tmps) = true
    · rw [if_pos hw] at h ⊢
      rcases h with h | h
      · exact wp_in hd.1 (fun a w h => list_in hno rest a w hd.2 h) (fun _ _ _ h => h) (fun _ _ h => h) h
      · exact absurd h.2 hno.lets
    · rw [if_neg hw] at h ⊢
      exact ⟨fun _ _ => trivial, list_in hno rest _ w hd.2 h⟩
section
variable (P : Program) (R : Option Nat) (N : Fm)
def TI (c : Code) (Q : Exit → Act → World → Prop) (σ : Store) (w : World) : Prop := NoOut Q → ∀ a, Rep N σ a → c.wpIn (wideR R) 0 P Q a w
def TLI (ops : Array Oper) (Q : Exit → Act → World → Prop) (l : List Oper) (σ : Store) (w : World) : Prop := NoOut Q → ∀ a, Rep N σ a → wpListIn (wideR R) 0 P ops Q l a w
def Kc (c : Code) (Q : Exit → Act → World → Prop) (a : Act) (w : World) : Prop := NoOut Q → c.wpIn (wideR R) 0 P Q a w
def Kl (ops : Array Oper) (Q : Exit → Act → World → Prop) (l : List Oper) (a : Act) (w : World) : Prop := NoOut Q → wpListIn (wideR R) 0 P ops Q l a w
end
section
variable {P : Program} {R : Option Nat} {N : Fm} {Q : Exit → Act → World → Prop} {σ : Store} {w : World} {ops : Array Oper} {rest : List Oper}
theorem TI.is {c : Code} (h : TI P R N c Q σ w) : TI P R N c Q σ w := h
theorem TI.seq {x y : Code} (h : TI P R N x (Exit.then (Kc P R y Q) Q) σ w) : TI P R N (x.seq y) Q σ w := fun hno a ha => wpIn_seq (wpIn_mono (h hno a ha) fun e a w hq => by
  cases e with
  | normal => exact hq hno
  | _ => exact hq)
theorem TI.skip (h : G N .normal Q σ w) : TI P R N .skip Q σ w := by unfold G at h; exact fun _ a ha => wpIn_skip (h a ha)
theorem TI.exit {id : Nat} (h : G N (.exit id) Q σ w) : TI P R N (.exit id) Q σ w := by unfold G at h; exact fun _ a ha => wpIn_exit (h a ha)
theorem TI.ret (h : G N .ret Q σ w) : TI P R N .ret Q σ w := by unfold G at h; exact fun _ a ha => wpIn_ret (h a ha)
theorem TI.block {id : Nat} {c : Code} (h : TI P R N c (Exit.inBlock id Q) σ w) : TI P R N (.block id c) Q σ w := fun hno a ha => wpIn_block (h hno a ha)
theorem TI.cond_t {c : Operand} {x y : Code} (hc : look σ c = some (.bool true)) (h : TI P R N x Q σ w) : TI P R N (.cond c x y) Q σ w :=
  fun hno a ha => wpIn_cond_true (ha.agree _ _ hc) (h hno a ha)
theorem TI.cond_f {c : Operand} {x y : Code} (hc : look σ c = some (.bool false)) (h : TI P R N y Q σ w) : TI P R N (.cond c x y) Q σ w :=
  fun hno a ha => wpIn_cond_false (ha.agree _ _ hc) (h hno a ha)
theorem TI.sub {c : Code} {σ' : Store} (hs : Sub σ' σ) (h : TI P R N c Q σ' w) : TI P R N c Q σ w := fun hno a ha => h hno a (ha.sub hs)
theorem TI.region {id : Nat} {l : List Oper} (hd : l.all noDefer = true) (h : TL P N .seq l.toArray Q l σ w) : TI P R N (.region id l.toArray false) Q σ w := by
  unfold TL at h
  exact fun hno a ha => wpIn_region_lit (list_in hno _ _ _ hd (h a ha))
theorem TI.regionI {id : Nat} {l : List Oper} (h : TLI P R N l.toArray Q l σ w) : TI P R N (.region id l.toArray false) Q σ w := fun hno a ha => wpIn_region_lit (h hno a ha)
theorem TLI.is {l : List Oper} (h : TLI P R N ops Q l σ w) : TLI P R N ops Q l σ w := h
theorem YieldAt.weak {F : Fence} {m : Nat} {P : Program} {l : Nat} {args : Array Value} {W : World} {R R' : Ending → World → Prop} (h : YieldAt F m P l args W R) (hr : ∀ e w, R e w → R' e w) : YieldAt F m P l args W R' := by
  obtain ⟨fn, tmps, assign, body, hy, hR⟩ := h
  exact ⟨fn, tmps, assign, body, hy, RoundIn.mono hR hr⟩
theorem TLI.nil (h : G N .normal Q σ w) : TLI P R N ops Q [] σ w := by unfold G at h; exact fun _ a ha => h a ha
theorem TLI.step {o : Oper} (hd : noDefer o = true) (h : TL P N .seq ops (Exit.then (Kl P R ops Q rest) Q) [o] σ w) : TLI P R N ops Q (o :: rest) σ w := by
  intro hno a ha
  unfold TL at h
  have h1 := h a ha
  simp only [wpList] at h1
  unfold wpListIn
  by_cases hw : Region.wanted o (yielded ops a.tmps) = true
  · rw [if_pos hw] at h1 ⊢
    rcases h1 with h1 | h1
    · exact wp_in hd (fun a w h => h hno) (fun _ _ _ h => h) (fun _ _ h => h) h1
    · exact absurd h1.2 (NoOut.lets (Q := Exit.then (Kl P R ops Q rest) Q) hno)
  · rw [if_neg hw] at h1 ⊢
    exact ⟨fun _ _ => trivial, h1 hno⟩
theorem G.nextL (h : TLI P R N ops Q rest σ w) : G N .normal (Exit.then (Kl P R ops Q rest) Q) σ w := by unfold G; exact fun a ha hno => h hno a ha
theorem G.nextI {y : Code} (h : TI P R N y Q σ w) : G N .normal (Exit.then (Kc P R y Q) Q) σ w := by unfold G; exact fun a ha hno => h hno a ha
theorem exec_yield {ρ : Operand → Value} {l : Nat} {x : Operand} {xs : List Operand} {tys : Array TypeId} {vs : List Value} {dd : Option Tmp} {t : TypeId} {pos : String} {af : Array Edge} {gd : Option (Nat × Bool)} {r : Next} (hρ : Agree σ ρ) (hf : look σ x = some (.func (.yield l) #[] #[])) (hx : looks σ xs = some vs)
    (hy : (Instr.yield l vs.toArray).run P w = .ok r w) : (execOp ρ ⟨dd, .call { callee := .value x, args := xs.toArray, argTypes := tys }, t, pos, af, gd⟩).run P w = .ok r w := by
  have e := hρ.list xs vs hx
  have ef := hρ x _ hf
  simp [execOp, resolve, ef, Deferred.ofValue, invoke, e, hy]
theorem TLI.yield {l : Nat} {d : Nat} {x : Operand} {xs : List Operand} {tys : Array TypeId} {vs : List Value} {t : TypeId} {pos : String} {af : Array Edge} (hf : look σ x = some (.func (.yield l) #[] #[])) (hx : looks σ xs = some vs) (hd : Nat.blt d N.n = true)
    (k : YieldAt Fence.wide 0 P l vs.toArray w fun e w' => ∃ v, e = .returned v ∧ TLI P R N ops Q rest ((d, v) :: σ) w') :
    TLI P R N ops Q (⟨some d, .call { callee := .value x, args := xs.toArray, argTypes := tys }, t, pos, af, none⟩ :: rest) σ w := by
  obtain ⟨fn, tmps, assign, body, hy, hR⟩ := k
  intro hno a ha
  refine wpListIn_plain rfl fun K hK => ⟨fun _ _ => trivial, ?_⟩
  rw [Oper.semAt_eq _ _ _ (fun c e => by cases e), exec_yield ha.agree hf hx hy, Oper.uponIn_round]
  refine ⟨fun e => (by cases e), RoundIn.mono (F := wideR R) hR ?_⟩
  rintro e w' ⟨v, rfl, hk⟩
  exact hK _ _ (hk hno _ (ha.put hd v))
theorem TI.loop {α : Type} {c : Code} (st : α → Store) (I : α → World → Prop) (μ : α → Nat) (x0 : α) (hs : Sub (st x0) σ) (h0 : I x0 w)
    (round : ∀ x w, I x w → TI P R N c (Exit.then (fun a' w' => ∃ x', Rep N (st x') a' ∧ I x' w' ∧ μ x' < μ x) Q) (st x) w) : TI P R N (.loop c) Q σ w := by
  intro hno a ha b k cs hro hb hr
  have key : ∀ j x a w, μ x = j → Rep N (st x) a → I x w →
      ∃ e a' w', Q e a' w' ∧ ArrivesIn (Machine.fenced P (wideR R)) P (lone (b.atR a (.code c :: .inLoop c :: k)) cs w) b k cs e a' w' := by
    intro j
    induction j using Nat.strongRecOn with
    | _ j ih =>
      intro x a w hx hrr hI
      obtain ⟨e, a₁, w₁, hq, harr⟩ := round x w hI hno a hrr b (.inLoop c :: k) cs hro hb hr
      cases e with
      | normal =>
        obtain ⟨x', hr', hI', hlt⟩ := hq
        obtain ⟨e₂, a₂, w₂, hq₂, harr₂⟩ := ih (μ x') (hx ▸ hlt) x' a₁ w₁ rfl hr' hI'
        exact ⟨e₂, a₂, w₂, hq₂, .of_steps (StepsIn.trans harr (.one (fenced_calm (n := 0) hb hr rfl) stepR_inLoop)) harr₂⟩
      | exit id => exact ⟨_, a₁, w₁, hq, .pass (x := .inLoop c) rfl (fun _ _ => .inl (by simp)) harr⟩
      | goto l => exact ⟨_, a₁, w₁, hq, .pass (x := .inLoop c) rfl (fun _ _ => .inl (by simp)) harr⟩
      | ret => exact ⟨_, a₁, w₁, hq, .pass (x := .inLoop c) rfl (fun _ _ => .inl (by simp)) harr⟩
      | panic ch => exact ⟨_, a₁, w₁, hq, .pass (x := .inLoop c) rfl (fun _ _ => .inl (by simp)) harr⟩
      | outgrown => exact ⟨_, a₁, w₁, hq, .pass (x := .inLoop c) rfl (fun _ _ => .inl (by simp)) harr⟩
  obtain ⟨e, a', w', hq, harr⟩ := key _ x0 a w rfl (ha.sub hs) h0
  exact ⟨e, a', w', hq, .of_steps (.one (fenced_calm (n := 0) hb hr rfl) stepR_loop) harr⟩
end
/-! ### Worlds behind the loop's book-keeping -/
structure Cx (B : Nat) (w w' : World) : Prop where
  os : w'.os = w.os
  tape : w'.tape = w.tape
  output : w'.output = w.output
  size : w.heap.size ≤ w'.heap.size
  low : ∀ k, k < B → k < w.heap.size → w'.heap[k]? = w.heap[k]?
  cells : ∀ (k : Nat) (o : Obj), w.heap[k]? = some o → o.isCells = true → w'.heap[k]? = w.heap[k]?
theorem Cx.refl (B : Nat) (w : World) : Cx B w w := ⟨rfl, rfl, rfl, Nat.le_refl _, fun _ _ _ => rfl, fun _ _ _ _ => rfl⟩
theorem Cx.of {B : Nat} {w w' : World} (h : Ext w w') : Cx B w w' := ⟨h.os, h.tape, h.output, h.size, fun k _ hk => h.block k hk, fun k o hk _ => h.block k (Array.getElem?_eq_some_iff.1 hk).1⟩
theorem Cx.trans {B : Nat} {a b c : World} (h : Cx B a b) (k : Cx B b c) : Cx B a c :=
  ⟨k.os.trans h.os, k.tape.trans h.tape, k.output.trans h.output, Nat.le_trans h.size k.size, fun i hi hl => (k.low i hi (Nat.lt_of_lt_of_le hl h.size)).trans (h.low i hi hl),
    fun i o hi ho => by have h1 := h.cells i o hi ho; exact (k.cells i o (h1.trans hi) ho).trans h1⟩
theorem Cx.put {B : Nat} {w : World} {l : Nat} {o : Obj} (o' : Obj) (hl : B ≤ l) (h : w.heap[l]? = some o) (ho : o.isCells = false) : Cx B w (w.putObj l o') :=
  ⟨rfl, rfl, rfl, Nat.le_of_eq World.putObj_size.symm, fun k hk _ => World.putObj_heap_other (by omega), fun k x hk hx => World.putObj_heap_other (fun e => by subst e; rw [h] at hk; cases hk; rw [ho] at hx; cases hx)⟩
theorem Cx.mono {B B' : Nat} {w w' : World} (h : Cx B w w') (hB : B' ≤ B) : Cx B' w w' := ⟨h.os, h.tape, h.output, h.size, fun k hk => h.low k (Nat.lt_of_lt_of_le hk hB), h.cells⟩
theorem Cx.ext {w0 w w' : World} {B : Nat} (h : Ext w0 w) (k : Cx B w w') (hB : w0.heap.size ≤ B) : Ext w0 w' :=
  ⟨k.os.trans h.os, k.tape.trans h.tape, k.output.trans h.output, Nat.le_trans h.size k.size, fun i hi => (k.low i (Nat.lt_of_lt_of_le hi hB) (Nat.lt_of_lt_of_le hi h.size)).trans (h.block i hi)⟩
theorem Cx.de {F : Nat → Prop} {B : Nat} {w w' : World} (k : Cx B w w') : DE F w.heap w'.heap := ⟨k.size, fun i cs t x hi _ => k.cells i _ hi rfl⟩
section
variable {S : Nat → Prop} {w0 w w' W : World} {L : List VB} {D : List DP} {B : Nat}
theorem Fr.cx (h : Fr w0 w L D S) (k : Cx B w w') (hB : w0.heap.size ≤ B) : Fr w0 w' L D S :=
  ⟨⟨k.os.trans h.exs.os, k.tape.trans h.exs.tape, k.output.trans h.exs.output, Nat.le_trans h.exs.size k.size, fun i hi hs => (k.low i (Nat.lt_of_lt_of_le hi hB) (Nat.lt_of_lt_of_le hi h.exs.size)).trans (h.exs.block i hi hs)⟩,
    fun v hv => ⟨(h.vars v hv).1, by have h1 := (h.vars v hv).2; unfold Vr at h1 ⊢; exact (k.cells _ _ h1 rfl).trans h1⟩, h.dist, fun d hd => d.st _ _ k.de (h.data d hd), h.apart⟩
structure Opn (w0 W : World) (S : Nat → Prop) : Prop where
  ext : Ext w0 W
  lo : ∀ k, S k → w0.heap.size ≤ k
  cells : ∀ k, S k → ∃ o : Obj, W.heap[k]? = some o ∧ o.isCells = true
theorem Fr.open (h : Fr w0 W L D) : ∃ S, Opn w0 W S ∧ Fr W W L D S :=
  ⟨fun k => ∃ v ∈ L, v.b = k, ⟨h.ext, fun k ⟨v, hv, e⟩ => by rcases (h.vars v hv).1 with h1 | h1; exact e ▸ h1; exact h1.elim, fun k ⟨v, hv, e⟩ => ⟨_, e ▸ (h.vars v hv).2, rfl⟩⟩,
    Exs.refl _ _, fun v hv => ⟨.inr ⟨v, hv, rfl⟩, (h.vars v hv).2⟩, h.dist, h.data, h.apart⟩
theorem Fr.outer (hO : Opn w0 W S) (h : Fr W w L D S) : Ext w0 w :=
  ⟨h.exs.os.trans hO.ext.os, h.exs.tape.trans hO.ext.tape, h.exs.output.trans hO.ext.output, Nat.le_trans hO.ext.size h.exs.size, fun k hk => (h.exs.block k (Nat.lt_of_lt_of_le hk hO.ext.size) (fun hs => by have := hO.lo k hs; omega)).trans (hO.ext.block k hk)⟩
theorem Fr.shut (hO : Opn w0 W S) (h : Fr W w L D S) : Fr w0 w L D :=
  ⟨.of (h.outer hO), fun v hv => ⟨.inl (by rcases (h.vars v hv).1 with h1 | h1; exact Nat.le_trans hO.ext.size h1; exact hO.lo _ h1), (h.vars v hv).2⟩, h.dist, h.data, h.apart⟩
theorem Fr.others (hO : Opn w0 W S) (h : Fr W w L D S) : KeepsOthers W w :=
  ⟨h.exs.size, fun k o hk ho => (h.exs.block k (Array.getElem?_eq_some_iff.1 hk).1 (fun hs => by obtain ⟨o', h1, h2⟩ := hO.cells k hs; rw [hk] at h1; cases h1; rw [ho] at h2; cases h2)).trans hk⟩
end
/-! ### The statement -/
def putAll : List Nat → List Value → Store → Store
  | p :: ps, v :: vs, σ => putAll ps vs ((p, v) :: σ)
  | _, _, σ => σ
theorem Rep.fold {N : Fm} : ∀ (ps : List Nat) (vs : List Value) {σ : Store} {a : Act}, Rep N σ a → ps.all (fun p => Nat.blt p N.n) = true → Rep N (putAll ps vs σ) { a with tmps := (ps.zip vs).foldl (fun t (x : Nat × Value) => t.setIfInBounds x.1 x.2) a.tmps }
  | [], vs, σ, a, h, _ => by simpa [putAll] using h
  | p :: ps, [], σ, a, h, _ => by simpa [putAll] using h
  | p :: ps, v :: vs, σ, a, h, hp => by
    simp only [List.all_cons, Bool.and_eq_true] at hp
    have := Rep.fold ps vs (h.put hp.1 v) hp.2
    simpa [putAll, Act.put] using this
def Iter (P : Program) (gf : FuncId) (cap : List Value) {β : Type} (args : β → List Value) (m : Nat) (It : World → Prop) (Fx : Nat → β → World → World → Prop) : Prop :=
  ∀ (l : Nat) (J : Nat → World → Prop) (Jx : World → Prop) (W : World), (∀ i W W', J i W → Ext W W' → J i W') → (∀ W W', Jx W → Ext W W' → Jx W') → It W → J 0 W →
    (∀ i x Wb W1, i < m → J i Wb → It Wb → Ext Wb W1 → Fx i x Wb W1 → YieldAt Fence.wide 0 P l (args x).toArray W1 fun e W' => (e = .returned (.bool true) ∧ J (i + 1) W' ∧ It W') ∨ (e = .returned (.bool false) ∧ Jx W')) →
    Calls P gf (Value.func (.yield l) #[] #[] :: cap).toArray W fun e W' => (∃ v, e = .returned v) ∧ ((J m W' ∧ It W') ∨ Jx W')
def RPost (I : World → Prop) (Ix : Code → World → Prop) (W : World) : Exit → Act → World → Prop
  | .normal, _, w' => KeepsOthers W w' ∧ I w'
  | .ret, _, w' => KeepsOthers W w' ∧ Ix .ret w'
  | .exit id, _, w' => KeepsOthers W w' ∧ Ix (.exit id) w'
  | _, _, _ => False
def Begun (P : Program) (B l : Nat) (body : Code) (I : World → Prop) (Ix : Code → World → Prop) (W : World) (a₁ : Act) (w₁ : World) : Prop :=
  KeepsOthers W w₁ ∧ ∀ w₂, Cx B w₁ w₂ → (∃ r, w₂.heap[l]? = some (.loop r)) → body.wpIn (wideR (some l)) 0 P (RPost I Ix w₂) a₁ w₂
theorem G.begun {P : Program} {N : Fm} {σ : Store} {B l : Nat} {body : Code} {I : World → Prop} {Ix : Code → World → Prop} {Q : Exit → Act → World → Prop} {W w : World} (hK : KeepsOthers W w)
    (h : ∀ w₂, Cx B w w₂ → (∃ r, w₂.heap[l]? = some (.loop r)) → TI P (some l) N body (RPost I Ix w₂) σ w₂) : G N .normal (Exit.then (Begun P B l body I Ix W) Q) σ w := by
  unfold G; exact fun a ha => ⟨hK, fun w₂ hc hr => h w₂ hc hr (fun _ _ h => h) a ha⟩
def markOf (D : Nat) : Deferred := { target := .collected D, args := #[] }
theorem TI.rangeFunc {P : Program} {n : Nat} {Q : Exit → Act → World → Prop} {σ : Store} {w : World} {g : Operand} {ps : List Nat} {assign body : Code} {gf : FuncId} {cap : List Value} {β : Type} {args : β → List Value} {m : Nat} {It : World → Prop} {Fx : Nat → β → World → World → Prop}
    (hIt : Iter P gf cap args m It Fx) (hg : look σ g = some (.func (.func gf) #[] cap.toArray)) (hfn : IsFn P gf) (hps : ∀ x, (args x).length = ps.length) (hpn : ps.all (fun p => Nat.blt p n) = true)
    (it0 : It w) (hItc : ∀ W W', It W → Cx w.heap.size W W' → It W')
    (I : Nat → World → Prop) (Ix : Code → World → Prop) (hI : ∀ i W W', I i W → Cx w.heap.size W W' → I i W') (hIx : ∀ c W W', Ix c W → Cx w.heap.size W W' → Ix c W') (h0 : I 0 w)
    (hround : ∀ l i x Wb W, i < m → w.heap.size + 1 ≤ l → (∃ r, W.heap[l]? = some (.loop r)) → I i Wb → It Wb → Ext Wb W → Fx i x Wb W → TI P (some l) ⟨n, []⟩ assign (Exit.then (Begun P w.heap.size l body (fun w' => I (i + 1) w' ∧ It w') Ix W) (fun _ _ _ => False)) (putAll ps (args x) σ) W)
    (hdone : ∀ D w', w.heap.size ≤ D → w'.heap[D]? = some (.deferred (some [])) → I m w' → It w' → G ⟨n, [markOf D]⟩ .normal Q σ w')
    (hstop : ∀ D c w', w.heap.size ≤ D → w'.heap[D]? = some (.deferred (some [])) → Ix c w' → TI P none ⟨n, [markOf D]⟩ c Q σ w') :
    TI P none ⟨n, []⟩ (.rangeFunc g ps.toArray assign body) Q σ w := by
  intro hno a ha
  refine wpIn_rangeFunc (F := wideR none) (n := 0) ?_
  intro fn _
  have hnd : a.defers = [] := ha.nodef
  obtain ⟨rec, hrec⟩ : ∃ rec : LoopState → Option Code → Loop, rec = fun st pe => { state := st, pending := pe, fn, tmps := a.tmps, params := ps.toArray, assign, body, defers := w.heap.size } := ⟨_, rfl⟩
  obtain ⟨W1, hW1⟩ : ∃ W1, (w.alloc (.deferred (some []))).alloc (.loop (rec .ready none)) = W1 := ⟨_, rfl⟩
  have hE1 : Ext w W1 := by rw [← hW1]; exact Ext.trans (ext_alloc _ _) (ext_alloc _ _)
  have hL1 : W1.heap[w.heap.size + 1]? = some (.loop (rec .ready none)) := by
    rw [← hW1]; have := World.alloc_heap_new (w.alloc (.deferred (some []))) (.loop (rec .ready none)); rwa [World.size_alloc] at this
  have hK1 : W1.heap[w.heap.size]? = some (.deferred (some [])) := by
    rw [← hW1]; exact (Below.heap_alloc _ _ _ (by simp)).trans (World.alloc_heap_new w _)
  have ef := ha.agree _ _ hg
  refine ⟨w.heap.size + 1, [markOf w.heap.size], W1, { target := .fn (.func gf) cap.toArray, args := #[.func (.yield (w.heap.size + 1)) #[] #[]] }, W1, gf,
    (Value.func (.yield (w.heap.size + 1)) #[] #[] :: cap).toArray, W1, ?_, ?_, fun _ _ => trivial, ?_, fun e => (by cases e), ?_⟩
  · rw [← hW1, hrec]; exact run_enterLoop_outer _ _ _ _ _
  · simp only [resolve, ef]
    simp [go_sem]
  · simp [invoke, run_callFunc_enter hfn]
  · have recE : ∀ {W W' : World} {o : Obj} {k : Nat}, W.heap[k]? = some o → Ext W W' → W'.heap[k]? = some o := fun h hE => (hE.block _ (Array.getElem?_eq_some_iff.1 h).1).trans h
    refine calls_in ((hIt (w.heap.size + 1) (fun i W => I i W ∧ W.heap[w.heap.size + 1]? = some (.loop (rec .ready none)) ∧ W.heap[w.heap.size]? = some (.deferred (some [])))
      (fun W => ∃ c, Ix c W ∧ W.heap[w.heap.size + 1]? = some (.loop (rec .done (some c))) ∧ W.heap[w.heap.size]? = some (.deferred (some []))) W1
      (fun i W W' h hE => ⟨hI i W W' h.1 (.of hE), recE h.2.1 hE, recE h.2.2 hE⟩) (fun W W' ⟨c, h⟩ hE => ⟨c, hIx c W W' h.1 (.of hE), recE h.2.1 hE, recE h.2.2 hE⟩)
      (hItc _ _ it0 (.of hE1)) ⟨hI _ _ _ h0 (.of hE1), hL1, hK1⟩ ?_).mono ?_)
    · rintro i x Wb W hi ⟨hi0, hl, hk⟩ hit hEb hfx
      replace hl := recE hl hEb
      replace hk := recE hk hEb
      have hlt : w.heap.size + 1 < W.heap.size := (Array.getElem?_eq_some_iff.1 hl).1
      have hy := run_yield (P := P) (args := (args x).toArray) hl (by rw [hrec]; simpa using hps x)
      rw [hrec] at hy
      refine ⟨fn, _, assign, body, hy, roundIn_of_wpIn (F := Fence.wide) (n := 0) trivial ?_⟩
      have hrep : Rep ⟨n, []⟩ (putAll ps (args x) σ) { tmps := (ps.toArray.zip (args x).toArray).foldl (fun t (x : Nat × Value) => t.setIfInBounds x.1 x.2) a.tmps, defers := [] } := by
        have := Rep.fold ps (args x) ha hpn
        rw [hnd] at this
        simpa [List.zip_toArray] using this
      refine wpIn_mono (hround (w.heap.size + 1) i x Wb W hi (Nat.le_refl _) ⟨_, hl⟩ hi0 hit hEb hfx (fun _ _ h => h) _ hrep) ?_
      rintro e a₁ w₁ hq
      cases e with
      | normal =>
        obtain ⟨hk1, hbody⟩ := hq
        have hl1 := hk1.same _ _ hl rfl
        have hd1 := hk1.same _ _ hk rfl
        have hlt1 := (Array.getElem?_eq_some_iff.1 hl1).1
        refine ⟨_, run_beginRound hl1 (by rw [hrec]), ?_⟩
        have hc2 : Cx w.heap.size w₁ (w₁.putObj (w.heap.size + 1) (.loop { rec .ready none with state := .busy })) := .put _ (by omega) hl1 rfl
        have hl2 : (w₁.putObj (w.heap.size + 1) (.loop { rec .ready none with state := .busy })).heap[w.heap.size + 1]? = some (.loop { rec .ready none with state := .busy }) := World.putObj_heap_same hlt1
        have hk2 : (w₁.putObj (w.heap.size + 1) (.loop { rec .ready none with state := .busy })).heap[w.heap.size]? = some (.deferred (some [])) := (World.putObj_heap_other (by omega)).trans hd1
        refine wpIn_mono (hbody _ hc2 ⟨_, hl2⟩) ?_
        have fin : ∀ (jump : Option Code) (W3 : World), KeepsOthers (w₁.putObj (w.heap.size + 1) (.loop { rec .ready none with state := .busy })) W3 →
            ∃ W4, (Instr.endRound (w.heap.size + 1) jump).run P W3 = .ok (.bool jump.isNone) W4 ∧ Cx w.heap.size W3 W4 ∧
            W4.heap[w.heap.size + 1]? = some (.loop (rec (if jump.isNone then .ready else .done) jump)) ∧ W4.heap[w.heap.size]? = some (.deferred (some [])) := fun jump W3 hk3 => by
          have hl3 := hk3.same _ _ hl2 rfl
          have := run_endRound (P := P) jump hl3
          refine ⟨_, this, .put _ (by omega) hl3 rfl, ?_, (World.putObj_heap_other (by omega)).trans (hk3.same _ _ hk2 rfl)⟩
          rw [World.putObj_heap_same (Array.getElem?_eq_some_iff.1 hl3).1, hrec]
        rintro e a3 W3 hp
        cases e with
        | normal =>
          obtain ⟨W4, hr, hc4, hl4, hk4⟩ := fin none W3 hp.1
          exact ⟨_, _, hr, .inl ⟨rfl, ⟨hI _ _ _ hp.2.1 hc4, hl4, hk4⟩, hItc _ _ hp.2.2 hc4⟩⟩
        | ret =>
          obtain ⟨W4, hr, hc4, hl4, hk4⟩ := fin (some .ret) W3 hp.1
          exact ⟨_, _, hr, .inr ⟨rfl, .ret, hIx _ _ _ hp.2 hc4, hl4, hk4⟩⟩
        | exit id =>
          obtain ⟨W4, hr, hc4, hl4, hk4⟩ := fin (some (.exit id)) W3 hp.1
          exact ⟨_, _, hr, .inr ⟨rfl, .exit id, hIx _ _ _ hp.2 hc4, hl4, hk4⟩⟩
        | goto t => exact hp.elim
        | panic ch => exact hp.elim
        | outgrown => exact hp.elim
      | _ => exact hq.elim
    · rintro e W2 ⟨⟨v, rfl⟩, (⟨⟨hi, hl, hk⟩, hit⟩ | ⟨c, hi, hl, hk⟩)⟩
      · have hc : Cx w.heap.size W2 (W2.putObj (w.heap.size + 1) (.loop { rec .ready none with state := .exhausted })) := .put _ (by omega) hl rfl
        have hq := hdone w.heap.size _ (Nat.le_refl _) ((World.putObj_heap_other (by omega)).trans hk) (hI _ _ _ hi hc) (hItc _ _ hit hc)
        unfold G at hq
        refine ⟨none, _, (run_endLoop (P := P) hl (by rw [hrec]; simp)).trans (congrArg (fun x => Result.ok x _) (show (rec .ready none).pending = none by rw [hrec])), ?_⟩
        exact hq _ ⟨ha.size, by simp [hnd], ha.get⟩
      · have hc : Cx w.heap.size W2 (W2.putObj (w.heap.size + 1) (.loop { rec .done (some c) with state := .exhausted })) := .put _ (by omega) hl rfl
        refine ⟨some c, _, (run_endLoop (P := P) hl (by rw [hrec]; simp)).trans (congrArg (fun x => Result.ok x _) (show (rec .done (some c)).pending = some c by rw [hrec])), ?_⟩
        exact hstop w.heap.size c _ (Nat.le_refl _) ((World.putObj_heap_other (by omega)).trans hk) (hIx _ _ _ hi hc) hno _ ⟨ha.size, by simp [hnd], ha.get⟩
/-! ### Functions that hold such a statement, and iterators -/
section
variable {P : Program} {n : Nat} {σ : Store} {w : World} {fn : Func} {R : Ending → World → Prop}
theorem enterM {f : FuncId} {fn : Func} {c : Code} {vs : List Value} {R : Ending → World → Prop} (hf : P.funcs[f]? = some fn) (hb : fn.body = some c) {n : Nat} (hn : fn.ntmps = n) (hl : Nat.ble vs.length n = true) (hR : ∀ w', ¬ R .outgrown w')
    (h : TI P none ⟨n, []⟩ c (bodyPostM Fence.wide 0 P fn R) (argStore 0 vs) w) : Cl P f vs.toArray w R := by
  refine Cl.of (callsIn_wide (n := 0) |>.1 (callsIn_of_wp_marks hf hb trivial (h (fun _ w' h => hR w' h) _ ⟨?_, rfl, fun i v hv => ?_⟩)))
  · have := Nat.le_of_ble_eq_true hl
    simp [hn]; omega
  · obtain ⟨_, h2⟩ := look_argStore vs 0 i v hv
    rw [Nat.sub_zero] at h2
    have hi := (List.getElem?_eq_some_iff.1 h2).1
    simp only [Array.getD_eq_getD_getElem?]
    rw [Array.getElem?_append_left (by simpa using hi)]
    simp [h2]
theorem leavesM {tmps : Array Value} {v : Value} (hr : (results fn tmps).run P w = .ok v w) (h : R (.returned v) w) : LeavesInM Fence.wide 0 P fn tmps R [] .returning w := ⟨v, hr, h⟩
theorem leavesM_mark {tmps : Array Value} {v : Value} {D : Nat} (hD : w.heap[D]? = some (.deferred (some []))) (hr : (results fn tmps).run P (w.putObj D (.deferred none)) = .ok v (w.putObj D (.deferred none))) (h : R (.returned v) (w.putObj D (.deferred none))) :
    LeavesInM Fence.wide 0 P fn tmps R [markOf D] .returning w := ⟨by simp, .inl ⟨_, _, rfl, run_takeDeferred hD, leavesM hr h⟩⟩
theorem G.retM0 (hr : fn.results = #[]) (h : R (.returned (.tuple #[])) w) : G ⟨n, []⟩ .ret (bodyPostM Fence.wide 0 P fn R) σ w := by
  unfold G
  intro a ha
  have hd := ha.nodef
  simp only [bodyPostM, hd]
  exact leavesM (results_none hr _ _ _) h
theorem G.endM0 (hr : fn.results = #[]) (h : R (.returned (.tuple #[])) w) : G ⟨n, []⟩ .normal (bodyPostM Fence.wide 0 P fn R) σ w := by
  unfold G
  intro a ha
  have hd := ha.nodef
  simp only [bodyPostM, hd]
  exact leavesM (results_none hr _ _ _) h
theorem Cx.shut {B D : Nat} {w : World} (hB : B ≤ D) (hD : w.heap[D]? = some (.deferred (some []))) : Cx B w (w.putObj D (.deferred none)) := .put _ hB hD rfl
end
attribute [irreducible] TI TLI
end Go.Eng
namespace Go.Proofs.YtlhmehikajidhaaGreat
open Go Go.Eng Go.Proofs Go.NatM Go.RowKit
theorem ivc_noV (l : List IV) : (l.flatMap ivc).all noU64 = true := by
  have := ivc_all l [] rfl
  rwa [List.append_nil] at this
def LsK (i : Nat) (l : List IV) (Z : Nat → Int) (K : Nat) (H : Array Obj) : Prop := ∀ q, q < i → LI H (Z q) (l.getD q default) ∧ (l.getD q default).m.n ≤ K
def dpLK (i : Nat) (l : List IV) (Z : Nat → Int) (K : Nat) : DP := ⟨LsK i l Z K, fun _ => False, fun _ _ _ h => h.elim, fun _ _ hd h q hq => ⟨(h q hq).1.de hd, (h q hq).2⟩⟩
section
variable {S : Nat → Prop} {w0 w w' : World} {L : List VB} {D : List DP}
theorem Fr.addLK (h : Fr w0 w L D S) {i : Nat} {l : List IV} {Z : Nat → Int} {K : Nat} (k : LsK i l Z K w.heap) : Fr w0 w L (dpLK i l Z K :: D) S := h.add _ k fun _ _ h => h
theorem Fr.lk (h : Fr w0 w L D S) {i : Nat} {l : List IV} {Z : Nat → Int} {K : Nat} (hm : dpLK i l Z K ∈ D) : LsK i l Z K w.heap := h.data _ hm
end
attribute [irreducible] dpLK
theorem LsK.set {H : Array Obj} {l : List IV} {Z : Nat → Int} {i K : Nat} {u : IV} (h : LsK i l Z K H) (hi : i < l.length) (hu : LI H (Z i) u) (hn : u.m.n ≤ K) : LsK (i + 1) (l.set i u) Z K H := by
  intro q hq
  by_cases e : q = i
  · subst e
    have e1 : (l.set q u).getD q default = u := by simp [List.getD, hi]
    rw [e1]; exact ⟨hu, hn⟩
  · have e1 : (l.set i u).getD q default = l.getD q default := by simp [List.getD, List.getElem?_set_ne (fun h => e h.symm)]
    rw [e1]; exact h q (by omega)
structure LL (H : Array Obj) (A : Option Addr) (n k : Nat) (l : List IV) (Z : Nat → Int) (K : Nat) : Prop where
  s : Sm 2 ivc H H.size A n k l
  g : LsK n l Z K H
theorem LL.ext {w w' : World} {A : Option Addr} {n k K : Nat} {l : List IV} {Z : Nat → Int} (hE : Ext w w') (h : LL w.heap A n k l Z K) : LL w'.heap A n k l Z K := ⟨(h.s.ext hE).size, fun q hq => ⟨(h.g q hq).1.ext hE, (h.g q hq).2⟩⟩
theorem LL.de {H H' : Array Obj} {A : Option Addr} {n k K : Nat} {l : List IV} {Z : Nat → Int} (hd : DE (fpA A n) H H') (h : LL H A n k l Z K) : LL H' A n k l Z K := ⟨Sm.deS (fun _ h => h) hd h.s, fun q hq => ⟨(h.g q hq).1.de hd, (h.g q hq).2⟩⟩
def LF (w : World) (A : Option Addr) (n : Nat) : Prop := n = 0 ∨ ∃ b, A = some ⟨b, 0, none⟩ ∧ w.heap.size ≤ b
def RetL (w : World) (n : Nat) (Z : Nat → Int) (K : Nat) (e : Ending) (w' : World) : Prop := ∃ A k l, e = .returned (.slice A n k) ∧ LL w'.heap A n k l Z K ∧ Ext w w' ∧ LF w A n
set_option maxRecDepth 100000 in
theorem each_ok (w : World) (A : Option Addr) (n k : Nat) (l : List IV) (hs : Sm 2 ivc w.heap w.heap.size A n k l) (hn : n ≤ 1048576) (g : FuncId) (cap : List Value) (hg : IsFn Tryz.prog g) (Z : Nat → Int) (K : Nat)
    (hG : ∀ i y (w1 : World), l[i]? = some y → Ext w w1 → Cl Tryz.prog g ([Value.agg (ivc y).toArray] ++ cap).toArray w1 (RetZ w1 (Z i) K)) :
    Cl Tryz.prog 86 #[.slice A n k, .func (.func g) #[] cap.toArray] w (RetL w n Z K) := by
  have hlen := hs.len
  refine enter Tryz.func86 rfl rfl rfl ?_
  have hF := Fr.refl w
  repeat' (first | (refine TL.isOp ?_; first | (apply TL.ev; (case hd => rfl); (case h => (first | exact ev_simple rfl | exact ev_len rfl))) | (refine TL.makeFr hF ivc ⟨false, ⟨none, 0, 0, []⟩⟩ (d := 10) rfl rfl rfl (Nat.le_refl _) (by omega) rfl rfl rfl ?_; clear hF; intro w10 b10 hF)) | (refine T.is ?_; first | refine T.seq ?_ | refine T.region ?_ | refine T.block ?_) | (refine G.is ?_; first | refine G.next ?_) | refine TL.nil ?_)
  refine T.loop (α := Nat × List IV) (fun x => [(1, .func (.func g) #[] cap.toArray), (5, .slice (some ⟨b10, 0, none⟩) n n), (11, .slice A n k), (12, .int .i64 (n : Int)), (13, .int .i64 (x.1 : Int))])
    (fun x w' => x.1 ≤ n ∧ x.2.length = n ∧ Fr w w' [⟨b10, 30, x.2.flatMap ivc⟩] [dpLK x.1 x.2 Z K])
    (fun x => n - x.1) (0, List.replicate n ⟨false, ⟨none, 0, 0, []⟩⟩) (by repeat (first | exact Sub.nil _ | refine Sub.cons rfl ?_ | refine Sub.cons' rfl (int_congr (by omega)) ?_)) ⟨Nat.zero_le _, List.length_replicate .., Fr.addLK hF (fun q hq => absurd hq (Nat.not_lt_zero _))⟩ ?_
  clear hF
  rintro ⟨i, zl⟩ w2 ⟨hi, hzl, hF⟩
  dsimp only at hi hzl hF ⊢
  rcases Nat.lt_or_ge i n with hin | hin
  · have hy : l[i]? = some (l.getD i default) := by simp [List.getD, show i < l.length by omega]
    obtain ⟨⟨yneg, ⟨yA, yn, yc, yl⟩⟩, ey⟩ : ∃ y, l.getD i default = y := ⟨_, rfl⟩
    rw [ey] at hy
    repeat' (first | (refine TL.isOp ?_; first | (refine TL.isBin ?_; refine TL.cmpG rfl rfl rfl rfl (fun hc => ?_) (fun hc => ?_) <;> (try (first | (exfalso; omega) | exact absurd rfl hc))) | (apply TL.ev; (case hd => rfl); (case h => (first | exact ev_simple rfl | (apply Ev.isBin; first | exact ev_arN rfl rfl rfl (by omega)) | (apply Ev.isLoad; first | exact ev_loadAFr hF rfl (by refine ⟨?_, ?_⟩; (focus (repeat (first | exact InV.head | apply InV.tail))); rfl) | exact ev_loadM rfl (hs.ext hF.ext) hy) | exact ev_indexM rfl rfl hin (hs.ext hF.ext).some | exact ev_indexM rfl rfl hin (.inr rfl)))) | (refine TL.storeAFr hF rfl rfl rfl rfl (by refine ⟨?_, ?_⟩; (focus (repeat (first | apply SetV.head | apply SetV.tail))); rfl) rfl ?_; clear hF; intro ws hF) | (refine TL.callV (vs := [.agg (ivc ⟨yneg, ⟨yA, yn, yc, yl⟩⟩).toArray]) (cap := cap) hg rfl rfl rfl ?_; refine (hG i _ _ hy hF.ext).mono ?_; rintro _ wf ⟨x, rfl, hLx, hE, hKx⟩; replace hF := Fr.addLI (hF.exts hE) hLx; clear hE hLx; refine Back.mk ?_) | (refine TL.storeAtFr hF (f := ivc) x rfl rfl rfl rfl (fun _ => rfl) (by rw [hzl]; exact hin) (ivc_noV zl) (by repeat (first | apply SetV.head | apply SetV.tail)) ?_; clear hF; intro ws hF) | (refine TL.allocFr hF rfl rfl ?_; clear hF; intro wa ba hF)) | (refine T.is ?_; first | refine T.seq ?_ | refine T.region ?_ | refine T.block ?_ | refine T.cond_t rfl ?_ | refine T.skip ?_) | (refine G.is ?_; first | refine G.next ?_ | refine G.blockN ?_) | refine TL.nil ?_)
    have hk := (Fr.lk hF (i := i) (l := zl) (by repeat (first | exact memH | apply memT))).set (by omega) (Fr.li hF (x := x) (by repeat (first | exact memH | apply memT))) hKx
    exact G.again (i + 1, zl.set i x) (by repeat (first | exact Sub.nil _ | refine Sub.cons rfl ?_ | refine Sub.cons' rfl (int_congr (by omega)) ?_)) ⟨by dsimp only; omega, by rw [List.length_set]; exact hzl, Fr.addLK (hF.weak (L := [⟨b10, 30, (zl.set i x).flatMap ivc⟩]) (D := []) (List.Sublist.cons _ (List.Sublist.refl _)) allN) hk⟩ (by dsimp only; omega)
  · obtain rfl : i = n := by omega
    repeat' (first | (refine TL.isOp ?_; first | (refine TL.isBin ?_; refine TL.cmpG rfl rfl rfl rfl (fun hc => ?_) (fun hc => ?_) <;> (try (first | (exfalso; omega) | exact absurd rfl hc))) | (apply TL.ev; (case hd => rfl); (case h => (first | exact ev_simple rfl)))) | (refine T.is ?_; first | refine T.seq ?_ | refine T.region ?_ | refine T.cond_f rfl ?_ | refine T.exit ?_ | refine T.ret ?_) | (refine G.is ?_; first | refine G.next ?_ | refine G.blockE ?_ | refine G.thenE ?_) | refine TL.nil ?_)
    refine G.ret1 rfl rfl ⟨_, _, zl, rfl, ⟨vr_sm (zs := []) (by omega) (fun _ _ => rfl) (by rw [List.append_nil]; exact hF.var .head) hzl (Nat.le_refl _) (hF.var .head).lt, Fr.lk hF (by repeat (first | exact memH | apply memT))⟩, hF.ext, .inr ⟨b10, rfl, ?_⟩⟩
    rcases hF.lo .head with h | h
    · exact h
    · exact h.elim
end Go.Proofs.YtlhmehikajidhaaGreat
namespace Go.N16
def U64 (l : List Nat) : Prop := ∀ x ∈ l, x < 65536
def val : List Nat → Nat
  | [] => 0
  | x :: l => x + 65536 * val l
def sz : List Nat → Nat
  | [] => 0
  | x :: l => if sz l = 0 ∧ x = 0 then 0 else sz l + 1
def dig (n : Nat) : List Nat := if h : n = 0 then [] else (n % 65536) :: dig (n / 65536)
termination_by n
decreasing_by exact Nat.div_lt_self (by omega) (by omega)
theorem U64.nil : U64 [] := fun x h => by cases h
theorem U64.cons {x : Nat} {l : List Nat} (h : x < 65536) (hl : U64 l) : U64 (x :: l) := fun y hy => by
  rcases List.mem_cons.1 hy with rfl | hy
  · exact h
  · exact hl y hy
theorem U64.head {x : Nat} {l : List Nat} (h : U64 (x :: l)) : x < 65536 := h x (by simp)
theorem U64.tail {x : Nat} {l : List Nat} (h : U64 (x :: l)) : U64 l := fun y hy => h y (by simp [hy])
theorem U64.append {l r : List Nat} (h : U64 l) (k : U64 r) : U64 (l ++ r) := fun y hy => (List.mem_append.1 hy).elim (h y) (k y)
theorem U64.take {l : List Nat} (h : U64 l) (n : Nat) : U64 (l.take n) := fun y hy => h y (List.mem_of_mem_take hy)
theorem U64.drop {l : List Nat} (h : U64 l) (n : Nat) : U64 (l.drop n) := fun y hy => h y (List.mem_of_mem_drop hy)
theorem U64.replicate (n : Nat) : U64 (List.replicate n 0) := fun y hy => by rw [(List.mem_replicate.1 hy).2]; omega
theorem U64.one {x : Nat} (h : x < 65536) : U64 [x] := U64.cons h U64.nil
theorem U64.getD {l : List Nat} (h : U64 l) (k : Nat) : l.getD k 0 < 65536 := by
  rcases Nat.lt_or_ge k l.length with hk | hk
  · have : l.getD k 0 = l[k] := by simp [List.getD, hk]
    rw [this]; exact h _ (List.getElem_mem hk)
  · simp [List.getD, List.getElem?_eq_none hk]
theorem U64.set {l : List Nat} (h : U64 l) (k x : Nat) (hx : x < 65536) : U64 (l.set k x) := fun y hy => by
  rcases List.mem_or_eq_of_mem_set hy with hy | rfl
  · exact h y hy
  · exact hx
theorem getD_ge {l : List Nat} {j : Nat} (h : l.length ≤ j) : l.getD j 0 = 0 := by simp [List.getD, List.getElem?_eq_none h]
theorem sz_le (l : List Nat) : sz l ≤ l.length := by
  induction l with
  | nil => simp [sz]
  | cons x l ih => simp only [sz, List.length_cons]; split <;> omega
theorem sz_eq (l : List Nat) (n : Nat) (h1 : n ≤ l.length) (h2 : ∀ j, n ≤ j → l.getD j 0 = 0) (h3 : n = 0 ∨ l.getD (n - 1) 0 ≠ 0) : sz l = n := by
  induction l generalizing n with
  | nil => simp at h1; simp [sz, h1]
  | cons x l ih =>
    rcases n with _ | n
    · have hx : x = 0 := by simpa using h2 0 (by omega)
      have : sz l = 0 := ih 0 (by omega) (fun j _ => by simpa using h2 (j + 1) (by omega)) (.inl rfl)
      simp [sz, this, hx]
    · have hl : sz l = n := by
        refine ih n (by simpa using h1) (fun j hj => by simpa using h2 (j + 1) (by omega)) ?_
        rcases n with _ | n
        · exact .inl rfl
        · right; simpa using h3.resolve_left (by omega)
      simp only [sz]
      rw [if_neg]
      · omega
      · rintro ⟨h0, hx⟩
        have : n = 0 := by omega
        subst this
        simp [hx] at h3
theorem sz_top (l : List Nat) : sz l = 0 ∨ l.getD (sz l - 1) 0 ≠ 0 := by
  induction l with
  | nil => simp [sz]
  | cons x l ih =>
    simp only [sz]
    split
    · exact .inl rfl
    · rename_i h
      right
      rcases Nat.eq_zero_or_pos (sz l) with h0 | h0
      · have hx : x ≠ 0 := fun hx => h ⟨h0, hx⟩
        simp [h0, hx]
      · rcases ih with h1 | h1
        · omega
        · rw [show sz l + 1 - 1 = (sz l - 1) + 1 by omega]; simpa using h1
theorem sz_zero (l : List Nat) (j : Nat) (h : sz l ≤ j) : l.getD j 0 = 0 := by
  induction l generalizing j with
  | nil => simp
  | cons x l ih =>
    simp only [sz] at h
    split at h
    · rename_i h0
      rcases j with _ | j
      · simpa using h0.2
      · simpa using ih j (by omega)
    · rcases j with _ | j
      · omega
      · simpa using ih j (by omega)
theorem val_append (l r : List Nat) : val (l ++ r) = val l + 65536 ^ l.length * val r := by
  induction l with
  | nil => simp [val]
  | cons x l ih => simp only [List.cons_append, val, ih, List.length_cons, Nat.pow_succ, Nat.mul_add, Nat.add_assoc]; congr 2; rw [← Nat.mul_assoc, Nat.mul_comm 65536]
theorem val_one (x : Nat) : val [x] = x := by simp [val]
theorem val_snoc (l : List Nat) (x : Nat) : val (l ++ [x]) = val l + 65536 ^ l.length * x := by rw [val_append, val_one]
theorem val_zeros (n : Nat) : val (List.replicate n 0) = 0 := by
  induction n with
  | zero => rfl
  | succ n ih => simp [List.replicate_succ, val, ih]
theorem val_take_succ (l : List Nat) (i : Nat) : val (l.take (i + 1)) = val (l.take i) + 65536 ^ i * l.getD i 0 := by
  rcases Nat.lt_or_ge i l.length with h | h
  · rw [List.take_succ_eq_append_getElem h, val_snoc]
    simp [List.getD, h, Nat.min_eq_left (Nat.le_of_lt h)]
  · rw [List.take_of_length_le h, List.take_of_length_le (by omega), getD_ge h]; simp
theorem val_lt {l : List Nat} (h : U64 l) : val l < 65536 ^ l.length := by
  induction l with
  | nil => simp [val]
  | cons x l ih =>
    have h1 := ih h.tail
    have h2 := h.head
    simp only [val, List.length_cons, Nat.pow_succ]
    have h3 : val l + 1 ≤ 65536 ^ l.length := h1
    have h4 := Nat.mul_le_mul_left 65536 h3
    rw [Nat.mul_comm (65536 ^ l.length)]
    omega
theorem val_sz (l : List Nat) : val (l.take (sz l)) = val l := by
  induction l with
  | nil => rfl
  | cons x l ih =>
    simp only [sz]
    split
    · rename_i h
      rw [h.1] at ih
      simp only [List.take_zero, val] at ih ⊢
      rw [← ih, h.2]
    · simp only [List.take_succ_cons, val, ih]
theorem val_take_ge (l : List Nat) (k : Nat) (h : sz l ≤ k) : val (l.take k) = val l := by
  have e : l = l.take k ++ l.drop k := (List.take_append_drop k l).symm
  have h0 : val (l.drop k) = 0 := by
    have : l.drop k = List.replicate (l.drop k).length 0 := by
      apply List.ext_getElem
      · simp
      · intro i h1 h2
        have hz := sz_zero l (k + i) (by omega)
        simp only [List.getElem_drop, List.getElem_replicate]
        rw [List.length_drop] at h1
        have hki : k + i < l.length := by omega
        have : l.getD (k + i) 0 = l[k + i] := by simp [List.getD, hki]
        omega
    rw [this, val_zeros]
  conv => rhs; rw [e, val_append, h0]
  simp
theorem dig_zero : dig 0 = [] := by rw [dig]; simp
theorem dig_pos {n : Nat} (h : n ≠ 0) : dig n = (n % 65536) :: dig (n / 65536) := by rw [dig]; simp [h]
theorem val_dig (n : Nat) : val (dig n) = n := by
  induction n using Nat.strongRecOn with
  | _ n ih =>
    rcases Nat.eq_zero_or_pos n with rfl | h
    · rw [dig_zero]; rfl
    · rw [dig_pos (by omega), val, ih _ (Nat.div_lt_self h (by omega))]; omega
theorem U64_dig (n : Nat) : U64 (dig n) := by
  induction n using Nat.strongRecOn with
  | _ n ih =>
    rcases Nat.eq_zero_or_pos n with rfl | h
    · rw [dig_zero]; exact U64.nil
    · rw [dig_pos (by omega)]; exact U64.cons (Nat.mod_lt _ (by omega)) (ih _ (Nat.div_lt_self h (by omega)))
theorem take_sz {l : List Nat} (h : U64 l) : l.take (sz l) = dig (val l) := by
  induction l with
  | nil => simp [sz, val, dig_zero]
  | cons x l ih =>
    have hx := h.head
    have ih' := ih h.tail
    simp only [sz, val]
    split
    · rename_i h0
      rw [h0.1] at ih'
      have hv : val l = 0 := by rw [← val_sz l, h0.1]; rfl
      rw [h0.2, hv]; simp [dig_zero]
    · rename_i h0
      have hne : x + 65536 * val l ≠ 0 := by
        intro he
        have hx0 : x = 0 := by omega
        have hv : val l = 0 := by omega
        apply h0
        refine ⟨?_, hx0⟩
        rcases sz_top l with h1 | h1
        · exact h1
        · rw [hv, dig_zero] at ih'
          have := congrArg List.length ih'
          rw [List.length_take, List.length_nil] at this
          have := sz_le l
          omega
      rw [dig_pos hne, List.take_succ_cons, ih']
      congr 1
      · omega
      · congr 1; omega
theorem dig_length {l : List Nat} (h : U64 l) : (dig (val l)).length = sz l := by rw [← take_sz h, List.length_take]; have := sz_le l; omega
theorem sz_dig (n : Nat) : sz (dig n) = (dig n).length := by
  have h := dig_length (U64_dig n)
  rw [val_dig] at h
  exact h.symm
theorem dig_length_le {n k : Nat} (h : n < 65536 ^ k) : (dig n).length ≤ k := by
  induction k generalizing n with
  | zero => have : n = 0 := by simpa using h
            rw [this, dig_zero]; simp
  | succ k ih =>
    rcases Nat.eq_zero_or_pos n with rfl | h0
    · rw [dig_zero]; simp
    · rw [dig_pos (by omega), List.length_cons]
      have := ih (n := n / 65536) (by rw [Nat.div_lt_iff_lt_mul (by omega)]; rw [Nat.pow_succ] at h; exact h)
      omega
theorem pow_le_val {l : List Nat} (h : sz l ≠ 0) : 65536 ^ (sz l - 1) ≤ val l := by
  rw [← val_sz l]
  obtain ⟨k, hk⟩ : ∃ k, sz l = k + 1 := ⟨sz l - 1, by omega⟩
  have ht := (sz_top l).resolve_left h
  rw [hk, val_take_succ]
  rw [hk] at ht
  simp only [Nat.add_sub_cancel] at ht ⊢
  have : 65536 ^ k * 1 ≤ 65536 ^ k * l.getD k 0 := Nat.mul_le_mul_left _ (by omega)
  omega
theorem val_lt_sz {l : List Nat} (h : U64 l) : val l < 65536 ^ sz l := by
  have := val_lt (h.take (sz l))
  rw [val_sz, List.length_take, Nat.min_eq_left (sz_le l)] at this
  exact this
theorem lt_of_sz_lt {l r : List Nat} (hl : U64 l) (h : sz l < sz r) : val l < val r :=
  Nat.lt_of_lt_of_le (val_lt_sz hl) (Nat.le_trans (Nat.pow_le_pow_right (by omega) (by omega)) (pow_le_val (by omega)))
theorem set_zeros (D : List Nat) (r x : Nat) : (D ++ List.replicate (r + 1) 0).set D.length x = (D ++ [x]) ++ List.replicate r 0 := by
  rw [List.set_append_right _ _ (Nat.le_refl _), Nat.sub_self, List.replicate_succ, List.set_cons_zero, List.append_assoc]; rfl
theorem val_ext {a b : List Nat} (h : ∀ j, a.getD j 0 = b.getD j 0) : val a = val b := by
  induction a generalizing b with
  | nil =>
    induction b with
    | nil => rfl
    | cons y b ih =>
      have h0 := h 0
      have := ih fun j => by simpa using h (j + 1)
      simp at h0
      simp [val, ← h0, ← this]
  | cons x a ih =>
    cases b with
    | nil =>
      have h0 := h 0
      have := ih (b := []) fun j => by simpa using h (j + 1)
      simp at h0
      simp [val, h0, this]
    | cons y b =>
      have h0 := h 0
      have := ih (b := b) fun j => by simpa using h (j + 1)
      simp at h0
      simp [val, h0, this]
theorem getD_drop (l : List Nat) (k j : Nat) : (l.drop k).getD j 0 = l.getD (k + j) 0 := by simp [List.getD, List.getElem?_drop]
theorem val_split (l : List Nat) (k : Nat) : val l = val (l.take k) + 65536 ^ k * val (l.drop k) := by
  induction k generalizing l with
  | zero => simp [val]
  | succ k ih =>
    cases l with
    | nil => simp [val]
    | cons x l =>
      have := ih l
      simp only [List.take_succ_cons, List.drop_succ_cons, val, this, Nat.pow_succ]
      rw [Nat.mul_add, Nat.add_assoc, Nat.mul_comm (65536 ^ k) 65536, Nat.mul_assoc]
theorem val_drop (l : List Nat) (k : Nat) : val (l.drop k) = l.getD k 0 + 65536 * val (l.drop (k + 1)) := by
  rcases Nat.lt_or_ge k l.length with h | h
  · rw [List.drop_eq_getElem_cons h, val]; simp [List.getD, h]
  · rw [List.drop_of_length_le h, List.drop_of_length_le (by omega), getD_ge h]; rfl
theorem U64.take_lt {l : List Nat} (h : U64 l) (k : Nat) : val (l.take k) < 65536 ^ k :=
  Nat.lt_of_lt_of_le (val_lt (h.take k)) (Nat.pow_le_pow_right (by omega) (by rw [List.length_take]; omega))
theorem val_lt_of {a b : List Nat} (ha : U64 a) (k : Nat) (h1 : ∀ j, k < j → a.getD j 0 = b.getD j 0) (h2 : a.getD k 0 < b.getD k 0) : val a < val b := by
  have e : val (a.drop (k + 1)) = val (b.drop (k + 1)) := val_ext fun j => by rw [getD_drop, getD_drop]; exact h1 _ (by omega)
  have l1 := ha.take_lt k
  rw [val_split a k, val_split b k, val_drop a k, val_drop b k, e]
  generalize val (b.drop (k + 1)) = q
  generalize 65536 ^ k = p at l1 ⊢
  have : p * (a.getD k 0 + 65536 * q) + p ≤ p * (b.getD k 0 + 65536 * q) := by
    rw [← Nat.mul_succ]
    exact Nat.mul_le_mul_left _ (by omega)
  omega
def cmp3 (m n : Nat) : Int := if m < n then -1 else if n < m then 1 else 0
theorem add_step {p vD va vb s c' x y c : Nat} (h : vD + p * c = va + vb) (e : s + 65536 * c' = x + y + c) :
    vD + p * s + p * 65536 * c' = (va + p * x) + (vb + p * y) := by
  have e1 : p * (s + 65536 * c') = p * (x + y + c) := by rw [e]
  rw [Nat.mul_add, Nat.mul_add, Nat.mul_add, ← Nat.mul_assoc] at e1
  omega
theorem sub_step {p vD va vb s c' x y c : Nat} (h : vD + vb = va + p * c) (e : s + y + c = x + 65536 * c') :
    (vD + p * s) + (vb + p * y) = (va + p * x) + p * 65536 * c' := by
  have e1 : p * (s + y + c) = p * (x + 65536 * c') := by rw [e]
  rw [Nat.mul_add, Nat.mul_add, Nat.mul_add, ← Nat.mul_assoc] at e1
  omega
end Go.N16
namespace Go.NatM
def tz (n : Nat) : Nat := if h : n = 0 then 0 else if n % 2 = 1 then 0 else tz (n / 2) + 1
termination_by n
decreasing_by omega
end Go.NatM
namespace Go.NatM
open Go
def fourK (x k : Nat) : List Nat := (List.range k).map fun j => x / 65536 ^ j % 65536
theorem fourK_succ (x k : Nat) : fourK x (k + 1) = fourK x k ++ [x / 65536 ^ k % 65536] := by simp [fourK, List.range_succ]
theorem fourK_len (x k : Nat) : (fourK x k).length = k := by simp [fourK]
theorem U_fourK (x k : Nat) : N16.U64 (fourK x k) := by
  intro y hy
  simp only [fourK, List.mem_map] at hy
  obtain ⟨j, _, rfl⟩ := hy
  exact Nat.mod_lt _ (by omega)
theorem val_fourK {x : Nat} (h : x < 18446744073709551616) : N16.val (fourK x 4) = x := by
  have e : fourK x 4 = [x % 65536, x / 65536 % 65536, x / 4294967296 % 65536, x / 281474976710656 % 65536] := by
    simp [fourK, List.range_succ]
  rw [e]
  simp only [N16.val]; omega
theorem W_four : (18446744073709551616 : Nat) = 65536 ^ 4 := by decide
theorem W_pow4 (i : Nat) : (65536 : Nat) ^ (4 * i) = 18446744073709551616 ^ i := by rw [Nat.pow_mul, W_four]
theorem part16_succ (T : List Nat) (m r : Nat) : N16.val ((T.drop m).take (r + 1)) = T.getD m 0 + 65536 * N16.val ((T.drop (m + 1)).take r) := by
  rcases Nat.lt_or_ge m T.length with h | h
  · rw [List.drop_eq_getElem_cons h, List.take_succ_cons, N16.val]
    simp [List.getD, h]
  · rw [N16.getD_ge h, List.drop_of_length_le h, List.drop_of_length_le (by omega)]
    simp [N16.val]
theorem part16_lt {T : List Nat} (h : N16.U64 T) (m r : Nat) : N16.val ((T.drop m).take r) < 65536 ^ r := N16.U64.take_lt (h.drop m) r
theorem take16_four (T : List Nat) (q : Nat) : N16.val (T.take (4 * (q + 1))) = N16.val (T.take (4 * q)) + 18446744073709551616 ^ q * N16.val ((T.drop (4 * q)).take 4) := by
  have e := N16.val_split (T.take (4 * (q + 1))) (4 * q)
  rw [List.take_take, Nat.min_eq_left (by omega), List.drop_take, show 4 * (q + 1) - 4 * q = 4 by omega, W_pow4] at e
  exact e
theorem join_end {T L : List Nat} {q : Nat} (hT : N16.sz T = T.length) (hL : U64 L) (hq : L.length = q) (hv : val L = N16.val T) (h1 : T.length ≤ 4 * q) (h2 : 4 * q < T.length + 4) : L = dig (N16.val T) := by
  rw [← hv]
  rcases Nat.eq_zero_or_pos T.length with h0 | h0
  · have : L = [] := List.eq_nil_of_length_eq_zero (by omega)
    subst this
    rw [show val [] = 0 by rfl, dig_zero]
  · have h3 : 65536 ^ (T.length - 1) ≤ N16.val T := by
      have := N16.pow_le_val (l := T) (by omega)
      rwa [hT] at this
    have h4 : q ≤ sz L := by
      rcases Nat.lt_or_ge (sz L) q with h | h
      · have h5 := val_lt_sz hL
        have h6 : (18446744073709551616 : Nat) ^ sz L ≤ 65536 ^ (T.length - 1) := by
          rw [← W_pow4]; exact Nat.pow_le_pow_right (by omega) (by omega)
        omega
      · exact h
    have h5 := take_sz hL
    rw [List.take_of_length_le (by omega)] at h5
    exact h5
end Go.NatM
