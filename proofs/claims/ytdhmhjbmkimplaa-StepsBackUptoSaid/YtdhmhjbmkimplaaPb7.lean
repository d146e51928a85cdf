/- Layer 9: contracts of mat: product, Mul. Layer 9: contracts of mat: place, Add. ref01.Same: have two lists the same words? Layer 9: the law's own functions: alike, alikeRows, alikeMats, sound, none, of, wakes. Layer 9: of, wakes. Layer 9: MatRing's walk. From a law's row to its walk: arguments as the engine has them. What the bound of an Upto statement gives. Layers 1 and 2: contracts of nat.Shl, mulnat.MulLow. Layer 2: contracts of math/bits.Len, mulnat.Pow. Layer 2: contract of mulnat.Product. Arguments as the engine has them, more: slices of slices of words. Arguments as the engine has them, more: slices of structs, of whatever depth. Arguments as the engine has them: integers and matrices. The engine: frames. What a walk knows of the world lies in one fact: the blocks that it knows whole, and facts on data, which stand whatever is stored into those blocks. Layer 9: facts on matrices and integers that frames carry. The engine: frames, more: blocks of structs made, and written at any place. -/
import Derived.Test.YtdhmhjbmkimplaaPb6
import Derived.Test.YtdhmhjbmkimplaaPb4
import Derived.ProofKit
import Derived.OpenShut
import Derived.ChangeOld
import Derived.SizedLaws
import Derived.Test.YtdhmhjbmkimplaaRows
import Derived.Test.YtdhmhjbmkimplaaPb5
import Derived.Deep.Slices
import Derived.Test.YtdhmhjbmkimplaaPb3
set_option linter.unusedVariables false
set_option linter.unusedSimpArgs false
namespace Go.Proofs.Ytdhmhjbmkimplaa
open Go Go.Eng Go.Proofs Go.NatM Go.RowKit

def noBool : Value → Bool
  | .bool _ => false
  | _ => true
theorem sm_updV {w w' : World} {B n k b : Nat} {A : Option Addr} {l : List IV} {t : TypeId} {cs : List Value} (hu : Upd b w w') (hV : Vr w.heap b t cs) (hc : cs.all noBool = true) (h : Sm 2 ivc w.heap B A n k l) : Sm 2 ivc w'.heap B A n k l := by
  refine ⟨h.len, h.cap, h.pos, h.wid, ?_⟩
  rcases h.mem with h0 | ⟨b', o, e, hlt, hm⟩
  · exact .inl h0
  · rcases Nat.eq_zero_or_pos n with h0 | h0
    · exact .inl h0
    · have hl : 0 < l.length := by have := h.len; omega
      have hne : b' ≠ b := by
        intro hb
        subst hb
        have h1 := hm 0 l[0] (List.getElem?_eq_getElem hl) 0 (.bool l[0].neg) rfl
        rw [hV.cell] at h1
        have h2 := List.all_eq_true.1 hc _ (List.mem_of_getElem? h1)
        cases h2
      refine .inr ⟨b', o, e, hlt, fun j x hx q v hv => ?_⟩
      have := hm j x hx q v hv
      unfold hcell at this ⊢
      rw [hu.block b' hne]
      exact this
theorem LM.updV {w w' : World} {x : MV} {r c K b : Nat} {F : Nat → Nat → Int} {t : TypeId} {cs : List Value} (hu : Upd b w w') (hV : Vr w.heap b t cs) (h1 : cs.all noU64 = true) (h2 : cs.all noBool = true) (h : LM w.heap x r c F K) : LM w'.heap x r c F K :=
  ⟨h.sh, (sm_updV hu hV h2 h.s).size, fun i j hi hj => ⟨LI.updV hu hV h1 (h.g i j hi hj).1, (h.g i j hi hj).2⟩⟩
theorem LI.zero (H : Array Obj) : LI H 0 ⟨false, ⟨none, 0, 0, []⟩⟩ := ⟨⟨Sl.nil _ _ _ _ _, U64.nil⟩, by simp [dig_zero], rfl⟩
/-- f 0 + .. + f (m - 1) -/
def psum (f : Nat → Int) : Nat → Int
  | 0 => 0
  | k + 1 => f k + psum f k
set_option maxRecDepth 100000 in
set_option maxHeartbeats 8000000 in
theorem prod1_ok (w : World) (r m c i j Kx Ky : Nat) (A A' : Option Addr) (k k' : Nat) (l l' : List IV) (pa pb : Nat) (gx : GM w.heap ⟨r, m, A, r * m, k, l⟩ r m Kx) (gy : GM w.heap ⟨m, c, A', m * c, k', l'⟩ m c Ky) (hx : Kx ≤ 8796093022000) (hy : Ky ≤ 8796093022000)
    (hpa : Vr w.heap pa 24 (mvc ⟨r, m, A, r * m, k, l⟩)) (hpb : Vr w.heap pb 24 (mvc ⟨m, c, A', m * c, k', l'⟩)) (hi : i < r) (hj : j < c) :
    Cl Try.prog 68 #[.int .i64 (i : Int), .int .i64 (j : Int), .pointer (some ⟨pa, 0, none⟩), .pointer (some ⟨pb, 0, none⟩)] w (RetZ w (psum (fun q => ival (l.getD (i * m + q) default) * ival (l'.getD (q * c + j) default)) m) (Kx + Ky + m)) := by
  have hr64 := gx.sh.r64
  have hm64 := gx.sh.c64
  have hc64 := gy.sh.c64
  have hmul1 := mul64 hr64 hm64
  have hmul2 := mul64 hm64 hc64
  have hs := gx.s
  have hs' := gy.s
  have hlen := hs.len
  have hlen' := hs'.len
  dsimp only at hs hs' hlen hlen'
  refine enter Try.func68 rfl rfl rfl ?_
  repeat' (first | refine TL.ev (ev_simple rfl) rfl ?_ | (refine TL.alloc rfl (fun wa ba eba hVa hEa hza => ?_); have hla := box_lo (w0 := w) (by repeat (first | exact Ext.refl _ | (refine Ext.trans ?_ (by assumption)) | (apply ext_upd; assumption; rotate_left; omega))) eba) | (refine TL.ev (ev_fieldAddr rfl) rfl ?_) | (refine TL.ev (ev_loadVX rfl (by refine ⟨?_, ?_⟩; (focus (repeat (first | assumption | (apply Vr.ext; assumption) | (apply Vr.updX; assumption; rotate_left; omega)))); rfl)) rfl ?_) | refine T.seq ?_ | refine T.region ?_ | refine TL.nil ?_ | refine T.block ?_ | refine G.next ?_)
  rename_i w6 b6 eb6 hV6 hE6 hz6 hl6
  have hV6a : Vr wa.heap b6 40 (Value.agg #[.bool false, .slice none 0 0]).cells.toList := hV6.ext hEa
  have hEw : Ext w wa := (by repeat (first | exact Ext.refl _ | (refine Ext.trans ?_ (by assumption)) | (apply ext_upd; assumption; rotate_left; omega)))
  have hne : b6 ≠ ba := by omega
  refine T.loop (α := Nat × IV) (fun x => [(0, .int .i64 (i : Int)), (1, .int .i64 (j : Int)), (2, .pointer (some ⟨pa, 0, none⟩)), (3, .pointer (some ⟨pb, 0, none⟩)), (6, .pointer (some ⟨b6, 0, none⟩)), (7, .pointer (some ⟨ba, 0, none⟩)), (10, .int .i64 (m : Int)), (11, .int .i64 (x.1 : Int))])
    (fun x w' => x.1 ≤ m ∧ Ext w w' ∧ Vr w'.heap ba 40 (ivc x.2) ∧ Vr w'.heap b6 40 [.bool false, .slice none 0 0] ∧ LI w'.heap (psum (fun q => ival (l.getD (i * m + q) default) * ival (l'.getD (q * c + j) default)) x.1) x.2 ∧ x.2.m.n ≤ Kx + Ky + x.1)
    (fun x => m - x.1) (0, ⟨false, ⟨none, 0, 0, []⟩⟩) (by repeat (first | exact Sub.nil _ | refine Sub.cons rfl ?_ | refine Sub.cons' rfl (int_congr (by omega)) ?_)) ⟨Nat.zero_le _, hEw, hVa, hV6a, LI.zero _, Nat.zero_le _⟩ ?_
  rintro ⟨q, s⟩ w2 ⟨hq, hE2, hV72, hV62, hL2, hK2⟩
  dsimp only at hq hE2 hV72 hV62 hL2 hK2 ⊢
  rcases Nat.lt_or_ge q m with hqm | hqm
  · have hp1 := place_lt hi hqm
    have hp2 := place_lt hqm hj
    have s1 := hs.ext hE2
    have s2 := hs'.ext hE2
    have hpa2 := hpa.ext hE2
    have hpb2 := hpb.ext hE2
    have y1 : l[i * m + q]? = some (l.getD (i * m + q) default) := by simp [List.getD, show i * m + q < l.length by omega]
    have y2 : l'[q * c + j]? = some (l'.getD (q * c + j) default) := by simp [List.getD, show q * c + j < l'.length by omega]
    obtain ⟨g1, n1⟩ := (gx.ext hE2).g _ (List.mem_of_getElem? y1)
    obtain ⟨g2, n2⟩ := (gy.ext hE2).g _ (List.mem_of_getElem? y2)
    have g3 := hL2.g
    have hstep : psum (fun q => ival (l.getD (i * m + q) default) * ival (l'.getD (q * c + j) default)) (q + 1) = ival (l.getD (i * m + q) default) * ival (l'.getD (q * c + j) default) + ival s := by rw [hL2.val]; rfl
    obtain ⟨x1, hx1⟩ : ∃ x1, l.getD (i * m + q) default = x1 := ⟨_, rfl⟩
    obtain ⟨x2, hx2⟩ : ∃ x2, l'.getD (q * c + j) default = x2 := ⟨_, rfl⟩
    rw [hx1] at y1 g1 n1 hstep
    rw [hx2] at y2 g2 n2 hstep
    repeat' (first | refine TL.ev (ev_simple rfl) rfl ?_ | (refine TL.call rfl rfl ?_; first | (refine (zmulAdd_ok _ x1 x2 s (by repeat (first | assumption | (apply GI.ext; assumption))) (by repeat (first | assumption | (apply GI.ext; assumption))) (by repeat (first | assumption | (apply GI.ext; assumption))) (by omega) (by omega) (by omega)).mono ?_; rintro _ wm ⟨s', rfl, hLm, hEm, hKm⟩; refine Back.mk ?_; have hzm := hEm.size; rw [← hstep] at hLm)) | (refine TL.cmpG rfl rfl rfl rfl (fun hc => ?_) (fun hc => ?_) <;> try (exfalso; omega)) | refine TL.ev (ev_arN rfl rfl rfl (by omega)) rfl ?_ | refine TF.nil ?_ | refine TF.e rfl ?_ | refine G.treeEnd rfl ?_ | refine TF.s rfl (fun _ hh => ev_simple rfl) rfl ?_ | refine TF.s rfl (fun _ hh => ev_arN rfl rfl rfl (by omega)) rfl ?_ | refine TF.s rfl (fun _ hh => ev_fieldAddr rfl) rfl ?_ | refine TF.s rfl (fun _ hh => ev_loadVX rfl (by refine ⟨?_, ?_⟩; (focus (repeat (first | assumption | (apply Vr.ext; assumption) | (apply Vr.updX; assumption; rotate_left; omega)))); rfl)) rfl ?_ | refine TF.s rfl (fun _ hh => ev_loadVAX rfl (by refine ⟨?_, ?_⟩; (focus (repeat (first | assumption | (apply Vr.ext; assumption) | (apply Vr.updX; assumption; rotate_left; omega)))); rfl)) rfl ?_ | refine T.regionX 5 22 (.s 0 (.s 1 (.s 2 (.s 3 (.s 4 (.s 5 (.s 6 (.s 7 (.s 8 (.s 9 (.s 10 (.s 11 (.s 12 (.s 13 (.s 14 (.s 15 (.s 16 (.s 17 (.s 18 (.s 19 (.s 20 (.e 21 (.e 22 .nil))))))))))))))))))))))) mixed (by kernel_rfl) (fun wr hzr hEr => ?_) | (refine TF.s rfl (fun _ _ => ev_indexM rfl rfl hp1 s1.some) rfl ?_) | (refine TF.s rfl (fun _ _ => ev_indexM rfl rfl hp2 s2.some) rfl ?_) | (refine TF.s rfl (fun _ hh => ev_loadM rfl (s1.ext hh) y1) rfl ?_) | (refine TF.s rfl (fun _ hh => ev_loadM rfl (s2.ext hh) y2) rfl ?_) | (refine TL.storeVX rfl rfl rfl rfl (by refine ⟨?_, ?_⟩; (focus (repeat (first | assumption | (apply Vr.ext; assumption) | (apply Vr.updX; assumption; rotate_left; omega)))); rfl) (fun ws hVs hUs hzs => ?_)) | refine G.tree rfl (by repeat (first | exact Ext.refl _ | (refine Ext.trans ?_ (by assumption)) | (apply ext_upd; assumption; rotate_left; omega))) ?_ | refine T.seq ?_ | refine T.region ?_ | refine TL.nil ?_ | refine T.block ?_ | refine T.cond_t rfl ?_ | refine T.skip ?_ | refine G.next ?_ | refine G.blockN ?_ | refine G.only ?_)
    have hV7m : Vr wm.heap ba 40 (ivc s) := (by repeat (first | assumption | (apply Vr.ext; assumption) | (apply Vr.updX; assumption; rotate_left; omega)))
    have hV6e : Vr ws.heap b6 40 [.bool false, .slice none 0 0] := (by repeat (first | assumption | (apply Vr.ext; assumption) | (apply Vr.updX; assumption; rotate_left; omega)))
    exact G.again (q + 1, s') (by repeat (first | exact Sub.nil _ | refine Sub.cons rfl ?_ | refine Sub.cons' rfl (int_congr (by omega)) ?_)) ⟨by dsimp only; omega, (by repeat (first | exact Ext.refl _ | (refine Ext.trans ?_ (by assumption)) | (apply ext_upd; assumption; rotate_left; omega))), hVs, hV6e, LI.updV hUs hV7m rfl hLm, by dsimp only; omega⟩ (by dsimp only; omega)
  · obtain rfl : q = m := by omega
    repeat' (first | (refine TL.cmpG rfl rfl rfl rfl (fun hc => ?_) (fun hc => ?_) <;> try (exfalso; omega)) | (refine TL.ev (ev_loadVAX rfl (by refine ⟨?_, ?_⟩; (focus (repeat (first | assumption | (apply Vr.ext; assumption) | (apply Vr.updX; assumption; rotate_left; omega)))); rfl)) rfl ?_) | (refine TL.storeVX rfl rfl rfl rfl (by refine ⟨?_, ?_⟩; (focus (repeat (first | assumption | (apply Vr.ext; assumption) | (apply Vr.updX; assumption; rotate_left; omega)))); rfl) (fun ws hVs hUs hzs => ?_)) | refine T.seq ?_ | refine T.region ?_ | refine TL.nil ?_ | refine T.cond_f rfl ?_ | refine T.exit ?_ | refine T.ret ?_ | refine G.next ?_ | refine G.blockE ?_ | refine G.thenE ?_)
    exact G.retC1 rfl rfl (held_agg hVs rfl) ⟨s, rfl, LI.updV hUs hV62 rfl hL2, (by repeat (first | exact Ext.refl _ | (refine Ext.trans ?_ (by assumption)) | (apply ext_upd; assumption; rotate_left; omega))), hK2⟩
theorem mprod_ok (w : World) (x y : MV) (r m c Kx Ky : Nat) (gx : GM w.heap x r m Kx) (gy : GM w.heap y m c Ky) (hx : Kx ≤ 8796093022000) (hy : Ky ≤ 8796093022000) :
    Cl Try.prog 40 #[.agg (mvc x).toArray, .agg (mvc y).toArray] w (RetM w r c (fun i j => psum (fun q => ent x m i q * ent y c q j) m) (Kx + Ky + m)) := by
  obtain ⟨xr, xc, A, n, k, l⟩ := x
  obtain ⟨yr, yc, A', n', k', l'⟩ := y
  obtain ⟨h1, h2, h3, h4, h5⟩ := id gx.sh
  obtain ⟨h1', h2', h3', h4', h5'⟩ := id gy.sh
  dsimp only at h1 h2 h5 h1' h2' h5'
  subst h1 h2 h5 h1' h2' h5'
  refine enter Try.func40 rfl rfl rfl ?_
  repeat' (first | (refine TL.call rfl rfl ?_; first | (refine (build_ok _ r c h3 h4' 68 [.pointer (some ⟨bb, 0, none⟩), .pointer (some ⟨bd, 0, none⟩)] inferInstance (fun i j => psum (fun q => ival (l.getD (i * m + q) default) * ival (l'.getD (q * c + j) default)) m) (Kx + Ky + m) (fun i j w1 hi hj hE1 => prod1_ok w1 r m c i j Kx Ky A A' k k' l l' bb bd ((by repeat (first | assumption | (apply GM.ext; assumption)))) ((by repeat (first | assumption | (apply GM.ext; assumption)))) hx hy ((by repeat (first | assumption | (apply Vr.ext; assumption)))) ((by repeat (first | assumption | (apply Vr.ext; assumption)))) hi hj)).mono ?_; rintro _ wp ⟨z, rfl, hLp, hEp, hfp⟩; refine Back.mk ?_; have hzp := hEp.size)) | (refine TL.boxA (cs := mvc ⟨r, m, A, r * m, k, l⟩) rfl rfl (fun wb bb ebb hVb hEb hzb => ?_)) | (refine TL.boxA (cs := mvc ⟨m, c, A', m * c, k', l'⟩) rfl rfl (fun wd bd ebd hVd hEd hzd => ?_)) | (refine TL.alloc rfl (fun wa ba eba hVa hEa hza => ?_); have hla := box_lo (w0 := w) (by repeat (first | exact Ext.refl _ | (refine Ext.trans ?_ (by assumption)) | (apply ext_upd; assumption; rotate_left; omega))) eba) | (refine TL.ev (ev_fieldAddr rfl) rfl ?_) | (refine TL.ev (ev_loadVX rfl (by refine ⟨?_, ?_⟩; (focus (repeat (first | assumption | (apply Vr.ext; assumption) | (apply Vr.updX; assumption; rotate_left; omega)))); rfl)) rfl ?_) | (refine TL.storeVX rfl rfl rfl rfl (by refine ⟨?_, ?_⟩; (focus (repeat (first | assumption | (apply Vr.ext; assumption) | (apply Vr.updX; assumption; rotate_left; omega)))); rfl) (fun ws hVs hUs hzs => ?_)) | (refine TL.ev (ev_makeFunc rfl) rfl ?_) | refine T.seq ?_ | refine T.region ?_ | refine TL.nil ?_ | refine T.ret ?_ | refine G.next ?_)
  exact G.retC1 rfl rfl (held_agg hVs rfl) ⟨z, rfl, LM.updV hUs (by repeat (first | assumption | (apply Vr.ext; assumption) | (apply Vr.updX; assumption; rotate_left; omega))) rfl rfl hLp, (by repeat (first | exact Ext.refl _ | (refine Ext.trans ?_ (by assumption)) | (apply ext_upd; assumption; rotate_left; omega))), hfp.mono (by omega)⟩
/-- a new matrix and an error's number 0 -/
def RetME (w : World) (r c : Nat) (F : Nat → Nat → Int) (K : Nat) (e : Ending) (w' : World) : Prop := ∃ x : MV, e = .returned (.tuple #[.agg (mvc x).toArray, .int .i64 0]) ∧ LM w'.heap x r c F K ∧ Ext w w' ∧ MF w x
/-- no matrix, and an error's number -/
def RetMF (w : World) (err : Int) (e : Ending) (w' : World) : Prop := e = .returned (.tuple #[.agg #[.int .i64 0, .int .i64 0, .slice none 0 0], .int .i64 err]) ∧ Ext w w'
theorem sound_two {x y : MV} {r m m' c : Nat} (h : Sound x r m) (h' : Sound y m' c) : ∀ z ∈ [x, y], ∃ r c, Sound z r c := by
  intro z hz
  simp only [List.mem_cons, List.not_mem_nil, or_false] at hz
  rcases hz with rfl | rfl
  · exact ⟨_, _, h⟩
  · exact ⟨_, _, h'⟩
theorem mmul_ok (w : World) (x y : MV) (r m c Kx Ky : Nat) (gx : GM w.heap x r m Kx) (gy : GM w.heap y m c Ky) (hx : Kx ≤ 8796093022000) (hy : Ky ≤ 8796093022000) :
    Cl Try.prog 12 #[.agg (mvc x).toArray, .agg (mvc y).toArray] w (RetME w r c (fun i j => psum (fun q => ent x m i q * ent y c q j) m) (Kx + Ky + m)) := by
  have e1 := gx.sh.ec
  have e2 := gy.sh.er
  have h2 := sound_two gx.sh gy.sh
  refine enter Try.func12 rfl rfl rfl ?_
  repeat' (first | refine TL.ev (ev_simple rfl) rfl ?_ | (refine TL.call rfl rfl ?_; first | (refine (check_ok _ _ _ _ _ hSn h2 (by omega)).mono ?_; rintro _ wc ⟨rfl, hEc⟩; refine Back.mk ?_; have hzc := hEc.size) | (refine (mprod_ok _ x y r m c Kx Ky (by repeat (first | assumption | (apply GM.ext; assumption))) (by repeat (first | assumption | (apply GM.ext; assumption))) hx hy).mono ?_; rintro _ wp ⟨z, rfl, hLp, hEp, hfp⟩; refine Back.mk ?_; have hzp := hEp.size)) | (refine TL.cmpG rfl rfl rfl rfl (fun hc => ?_) (fun hc => ?_) <;> try first | (exfalso; omega) | exact absurd rfl hc) | (refine TL.buildX2 (f := mvc) (u := x) (v := y) rfl rfl rfl rfl rfl rfl rfl rfl rfl rfl (fun wn bn ebn hSn hEn hzn => ?_)) | (refine TL.boxA rfl rfl (fun wb bb ebb hVb hEb hzb => ?_); have hlb := box_lo (w0 := w) (by repeat (first | exact Ext.refl _ | (refine Ext.trans ?_ (by assumption)) | (apply ext_upd; assumption; rotate_left; omega))) ebb) | (refine TL.alloc rfl (fun wa ba eba hVa hEa hza => ?_); have hla := box_lo (w0 := w) (by repeat (first | exact Ext.refl _ | (refine Ext.trans ?_ (by assumption)) | (apply ext_upd; assumption; rotate_left; omega))) eba) | (refine TL.ev (ev_fieldAddr rfl) rfl ?_) | (refine TL.ev (ev_loadVX rfl (by refine ⟨?_, ?_⟩; (focus (repeat (first | assumption | (apply Vr.ext; assumption) | (apply Vr.updX; assumption; rotate_left; omega)))); rfl)) rfl ?_) | (refine TL.ev (ev_loadVAX rfl (by refine ⟨?_, ?_⟩; (focus (repeat (first | assumption | (apply Vr.ext; assumption) | (apply Vr.updX; assumption; rotate_left; omega)))); rfl)) rfl ?_) | (refine TL.storeVX rfl rfl rfl rfl (by refine ⟨?_, ?_⟩; (focus (repeat (first | assumption | (apply Vr.ext; assumption) | (apply Vr.updX; assumption; rotate_left; omega)))); rfl) (fun ws hVs hUs hzs => ?_)) | refine T.seq ?_ | refine T.region ?_ | refine TL.nil ?_ | refine T.cond_f rfl ?_ | refine T.ret ?_ | refine T.skip ?_ | refine G.next ?_)
  exact G.retC2 rfl rfl rfl (held_agg hVs rfl) ⟨z, rfl, LM.updV hUs (by repeat (first | assumption | (apply Vr.ext; assumption) | (apply Vr.updX; assumption; rotate_left; omega))) rfl rfl hLp, (by repeat (first | exact Ext.refl _ | (refine Ext.trans ?_ (by assumption)) | (apply ext_upd; assumption; rotate_left; omega))), hfp.mono (by omega)⟩
theorem of1_ok (w : World) : Cl Try.prog 30 #[.int .i64 1] w (RetZ w 1 1) := by
  refine enter Try.func30 rfl rfl rfl ?_
  repeat' (first | refine TL.ev (ev_simple rfl) rfl ?_ | (refine TL.call rfl rfl ?_; first | (refine (least_ok _ _ _ _ _ _ hSn (U64.one (by omega)) (by omega)).mono ?_; rintro _ wl ⟨Al, nl, cl, rfl, hOl, hEl, hKl⟩; refine Back.mk ?_; have hSl := hOl.sl (Nat.le_refl _); have hzl := hEl.size) | (refine (of_ok _ _ _ _ _ _ hSl).mono ?_; rintro _ wo ⟨rfl, hLo, hEo⟩; refine Back.mk ?_; have hzo := hEo.size)) | (refine TL.cmpG rfl rfl rfl rfl (fun hc => ?_) (fun hc => ?_) <;> try (exfalso; omega)) | refine TL.ev (ev_convU rfl (by omega)) rfl ?_ | (refine TL.build1U rfl rfl (fun wn bn ebn hBn hEn hzn => ?_); have hSn := hBn.slN (n := 1) (c := 1) rfl (Nat.le_refl _) hBn.lt) | (refine TL.alloc rfl (fun wa ba eba hVa hEa hza => ?_); have hla := box_lo (w0 := w) (by repeat (first | exact Ext.refl _ | (refine Ext.trans ?_ (by assumption)) | (apply ext_upd; assumption; rotate_left; omega))) eba) | (refine TL.storeVX rfl rfl rfl rfl (by refine ⟨?_, ?_⟩; (focus (repeat (first | assumption | (apply Vr.ext; assumption) | (apply Vr.updX; assumption; rotate_left; omega)))); rfl) (fun ws hVs hUs hzs => ?_)) | refine T.seq ?_ | refine T.region ?_ | refine TL.nil ?_ | refine T.cond_f rfl ?_ | refine T.ret ?_ | refine T.skip ?_ | refine G.next ?_)
  exact G.retC1 rfl rfl (held_agg hVs rfl) ⟨_, rfl, LI.updV hUs (by repeat (first | assumption | (apply Vr.ext; assumption) | (apply Vr.updX; assumption; rotate_left; omega))) rfl hLo, (by repeat (first | exact Ext.refl _ | (refine Ext.trans ?_ (by assumption)) | (apply ext_upd; assumption; rotate_left; omega))), hKl⟩
theorem unit1_ok (w : World) (i j : Nat) : Cl Try.prog 51 #[.int .i64 (i : Int), .int .i64 (j : Int)] w (RetZ w (if i = j then 1 else 0) 1) := by
  by_cases h : i = j
  · rw [if_pos h]
    refine enter Try.func51 rfl rfl rfl ?_
    repeat' (first | refine TL.ev (ev_simple rfl) rfl ?_ | (refine TL.call rfl rfl ?_; first | (refine (of1_ok _).mono ?_; rintro _ wo ⟨z, rfl, hLo, hEo, hKo⟩; refine Back.mk ?_; have hzo := hEo.size)) | (refine TL.cmpG rfl rfl rfl rfl (fun hc => ?_) (fun hc => ?_) <;> try (exfalso; omega)) | (refine TL.alloc rfl (fun wa ba eba hVa hEa hza => ?_); have hla := box_lo (w0 := w) (by repeat (first | exact Ext.refl _ | (refine Ext.trans ?_ (by assumption)) | (apply ext_upd; assumption; rotate_left; omega))) eba) | (refine TL.storeVX rfl rfl rfl rfl (by refine ⟨?_, ?_⟩; (focus (repeat (first | assumption | (apply Vr.ext; assumption) | (apply Vr.updX; assumption; rotate_left; omega)))); rfl) (fun ws hVs hUs hzs => ?_)) | refine T.seq ?_ | refine T.region ?_ | refine TL.nil ?_ | refine T.cond_t rfl ?_ | refine T.ret ?_ | refine G.next ?_ | refine G.thenR ?_)
    exact G.retC1 rfl rfl (held_agg hVs rfl) ⟨z, rfl, LI.updV hUs (by repeat (first | assumption | (apply Vr.ext; assumption) | (apply Vr.updX; assumption; rotate_left; omega))) rfl hLo, (by repeat (first | exact Ext.refl _ | (refine Ext.trans ?_ (by assumption)) | (apply ext_upd; assumption; rotate_left; omega))), hKo⟩
  · rw [if_neg h]
    refine enter Try.func51 rfl rfl rfl ?_
    repeat' (first | refine TL.ev (ev_simple rfl) rfl ?_ | (refine TL.cmpG rfl rfl rfl rfl (fun hc => ?_) (fun hc => ?_) <;> try (exfalso; omega)) | (refine TL.alloc rfl (fun wa ba eba hVa hEa hza => ?_); have hla := box_lo (w0 := w) (by repeat (first | exact Ext.refl _ | (refine Ext.trans ?_ (by assumption)) | (apply ext_upd; assumption; rotate_left; omega))) eba) | (refine TL.storeVX rfl rfl rfl rfl (by refine ⟨?_, ?_⟩; (focus (repeat (first | assumption | (apply Vr.ext; assumption) | (apply Vr.updX; assumption; rotate_left; omega)))); rfl) (fun ws hVs hUs hzs => ?_)) | (refine TL.ev (ev_buildX rfl rfl) rfl ?_) | refine T.seq ?_ | refine T.region ?_ | refine TL.nil ?_ | refine T.cond_f rfl ?_ | refine T.ret ?_ | refine T.skip ?_ | refine G.next ?_)
    exact G.retC1 rfl rfl (held_agg hVs rfl) ⟨⟨false, ⟨none, 0, 0, []⟩⟩, rfl, LI.zero _, (by repeat (first | exact Ext.refl _ | (refine Ext.trans ?_ (by assumption)) | (apply ext_upd; assumption; rotate_left; omega))), Nat.zero_le _⟩
theorem munit_ok (w : World) (n : Nat) (hn : n ≤ 64) : Cl Try.prog 26 #[.int .i64 (n : Int)] w (RetME w n n (fun i j => if i = j then 1 else 0) 1) := by
  have hs : decide ((0 : Int) ≤ (n : Int) ∧ (n : Int) ≤ 64) = true := decide_eq_true (by omega)
  refine enter Try.func26 rfl rfl rfl ?_
  repeat' (first | refine TL.ev (ev_simple rfl) rfl ?_ | (refine TL.call rfl rfl ?_; first | (refine (side_ok _ _ _ hs).clX.mono ?_; rintro _ wc ⟨rfl, hzc, hEc⟩; refine Back.mk ?_) | (refine (build_ok _ n n hn hn 51 [] inferInstance (fun i j => if i = j then 1 else 0) 1 (fun i j w1 hi hj hE1 => unit1_ok w1 i j)).mono ?_; rintro _ wp ⟨z, rfl, hLp, hEp, hfp⟩; refine Back.mk ?_; have hzp := hEp.size)) | (refine TL.alloc rfl (fun wa ba eba hVa hEa hza => ?_); have hla := box_lo (w0 := w) (by repeat (first | exact Ext.refl _ | (refine Ext.trans ?_ (by assumption)) | (apply ext_upd; assumption; rotate_left; omega))) eba) | (refine TL.storeVX rfl rfl rfl rfl (by refine ⟨?_, ?_⟩; (focus (repeat (first | assumption | (apply Vr.ext; assumption) | (apply Vr.updX; assumption; rotate_left; omega)))); rfl) (fun ws hVs hUs hzs => ?_)) | refine T.seq ?_ | refine T.region ?_ | refine TL.nil ?_ | refine T.cond_f rfl ?_ | refine T.ret ?_ | refine T.skip ?_ | refine G.next ?_)
  exact G.retC2 rfl rfl rfl (held_agg hVs rfl) ⟨z, rfl, LM.updV hUs (by repeat (first | assumption | (apply Vr.ext; assumption) | (apply Vr.updX; assumption; rotate_left; omega))) rfl rfl hLp, (by repeat (first | exact Ext.refl _ | (refine Ext.trans ?_ (by assumption)) | (apply ext_upd; assumption; rotate_left; omega))), hfp.mono (by omega)⟩
end Go.Proofs.Ytdhmhjbmkimplaa

namespace Go.Proofs.Ytdhmhjbmkimplaa
open Go Go.Eng Go.Proofs Go.NatM Go.RowKit

end Go.Proofs.Ytdhmhjbmkimplaa

namespace Go.Proofs.Ytdhmhjbmkimplaa
open Go Go.Eng Go.Proofs Go.NatM

theorem list_eq_of {l l' : List Nat} (h1 : l.length = l'.length) (h2 : ∀ j, j < l.length → l.getD j 0 = l'.getD j 0) : l = l' := by
  refine List.ext_getElem h1 fun j h h' => ?_
  have := h2 j h
  simpa [List.getD, h, h'] using this
theorem same_ok (H : Array Obj) (B B' : Nat) (A A' : Option Addr) (n c n' c' : Nat) (l l' : List Nat) (hs : Sl u64v H B A n c l) (hs' : Sl u64v H B' A' n' c' l') (hn : n ≤ 1152921504606846976) (hn' : n' ≤ 1152921504606846976) :
    Pure Try.prog 90 #[.slice A n c, .slice A' n' c'] H (.bool (decide (l = l'))) := by
  refine Pure.of fun w hw => ?_
  subst hw
  have hlen := hs.len
  have hlen' := hs'.len
  refine enter Try.func90 rfl rfl rfl ?_
  repeat' (first | refine TL.ev (ev_simple rfl) rfl ?_ | refine TL.ev (ev_len rfl) rfl ?_ | (refine TL.cmpG rfl rfl rfl rfl (fun hc => ?_) (fun hc => ?_) <;> try (exfalso; omega)) | refine T.seq ?_ | refine T.region ?_ | refine TL.nil ?_ | refine T.block ?_ | refine T.cond_t rfl ?_ | refine T.cond_f rfl ?_ | refine T.ret ?_ | refine T.skip ?_ | refine G.next ?_ | refine G.thenR ?_)
  · refine G.ret1 rfl rfl ⟨?_, Qt.refl _⟩
    rw [decide_eq_false (fun h => hc (by subst h; omega))]
  · refine T.loop (fun k : Nat => [(0, .slice A n c), (1, .slice A' n' c'), (5, .int .i64 (k : Int))]) (fun k w' => Qt w w' ∧ k ≤ n ∧ ∀ j, j < k → l.getD j 0 = l'.getD j 0) (fun k => n - k) 0 (by repeat (first | exact Sub.nil _ | refine Sub.cons rfl ?_ | refine Sub.cons' rfl (int_congr (by omega)) ?_)) ⟨Qt.refl w, Nat.zero_le _, fun j hj => by omega⟩ ?_
    rintro k w' ⟨⟨q, rfl⟩, hk, hz⟩
    have hq : Qt w (w.drewN q) := ⟨q, rfl⟩
    repeat' (first | refine TL.ev (ev_simple rfl) rfl ?_ | refine TL.ev (ev_len rfl) rfl ?_ | (refine TL.cmpG rfl rfl rfl rfl (fun hc => ?_) (fun hc => ?_) <;> try (exfalso; omega)) | refine TL.ev (ev_arN rfl rfl rfl (by omega)) rfl ?_ | refine TL.ev (ev_indexN rfl rfl (by omega) (by first | exact Or.inr rfl | exact Sl.some (by assumption))) rfl ?_ | refine TL.ev (ev_loadU rfl (by assumption) (by omega)) rfl ?_ | refine T.seq ?_ | refine T.region ?_ | refine TL.nil ?_ | refine T.block ?_ | refine T.cond_t rfl ?_ | refine T.cond_f rfl ?_ | refine T.exit ?_ | refine T.ret ?_ | refine T.skip ?_ | refine G.next ?_ | refine G.blockN ?_ | refine G.blockE ?_ | refine G.blockR ?_ | refine G.thenE ?_ | refine G.thenR ?_ | refine T.regionQ mixed (by kernel_rfl) ?_ | refine TL.nilQ (fun _ => ?_))
    · refine G.ret1 rfl rfl ⟨?_, hq.drewN _⟩
      rw [decide_eq_false (fun h => hc (by subst h; rfl))]
    · refine G.again (k + 1) (by repeat (first | exact Sub.nil _ | refine Sub.cons rfl ?_ | refine Sub.cons' rfl (int_congr (by omega)) ?_)) ⟨hq.drewN _, by omega, fun j hj => ?_⟩ (by omega)
      rcases Nat.lt_or_ge j k with h | h
      · exact hz j h
      · obtain rfl : j = k := by omega
        omega
    · refine G.ret1 rfl rfl ⟨?_, hq⟩
      rw [decide_eq_true (list_eq_of (by omega) (fun j hj => hz j (by omega)))]
theorem same_t (H : Array Obj) (B B' : Nat) (A A' : Option Addr) (n c n' c' : Nat) (l l' : List Nat) (hs : Sl u64v H B A n c l) (hs' : Sl u64v H B' A' n' c' l') (hn : n ≤ 1152921504606846976) (hn' : n' ≤ 1152921504606846976) (h : l = l') :
    Pure Try.prog 90 #[.slice A n c, .slice A' n' c'] H (.bool true) := by
  have := same_ok H B B' A A' n c n' c' l l' hs hs' hn hn'
  rwa [decide_eq_true h] at this
end Go.Proofs.Ytdhmhjbmkimplaa

namespace Go.Proofs.Ytdhmhjbmkimplaa
open Go Go.Eng Go.Proofs Go.NatM Go.RowKit

def YesM (w : World) (e : Ending) (w' : World) : Prop := e = .returned (.bool true) ∧ Ext w w'
end Go.Proofs.Ytdhmhjbmkimplaa

namespace Go.Proofs.Ytdhmhjbmkimplaa
open Go Go.Eng Go.Proofs Go.NatM Go.RowKit

theorem dig_small {n : Nat} (h : n < 18446744073709551616) (h0 : n ≠ 0) : dig n = [n] := by
  rw [dig_pos h0, Nat.mod_eq_of_lt h, Nat.div_eq_of_lt h, dig_zero]
theorem mvc_mk (r c : Int) (A : Option Addr) (n k : Nat) (l : List IV) : mvc ⟨r, c, A, n, k, l⟩ = [.int .i64 r, .int .i64 c, .slice A n k] := rfl
end Go.Proofs.Ytdhmhjbmkimplaa

namespace Go.Proofs.Ytdhmhjbmkimplaa
open Go Go.Eng Go.Proofs Go.NatM Go.RowKit

/-- a matrix that reads, sound or not; entries of at most K words -/
structure RM (H : Array Obj) (x : MV) (K : Nat) : Prop where
  s : Sm 2 ivc H H.size x.A x.n x.k x.l
  g : ∀ y ∈ x.l, GI H y ∧ y.m.n ≤ K
theorem RM.gm {H : Array Obj} {x : MV} {r c K : Nat} (h : RM H x K) (hs : Sound x r c) : GM H x r c K := ⟨hs, h.s, h.g⟩
theorem GM.updV {w w' : World} {x : MV} {r c K b : Nat} {t : TypeId} {cs : List Value} (hu : Upd b w w') (hV : Vr w.heap b t cs) (h1 : cs.all noU64 = true) (h2 : cs.all noBool = true) (h : GM w.heap x r c K) : GM w'.heap x r c K :=
  ⟨h.sh, (sm_updV hu hV h2 h.s).size, fun y hy => ⟨⟨(sl_updV hu hV h1 (h.g y hy).1.s).size, (h.g y hy).1.u⟩, (h.g y hy).2⟩⟩
theorem lm_mk {H : Array Obj} {z : MV} {r c : Nat} {F : Nat → Nat → Int} {K : Nat} (h : LM H z r c F K) : ∃ A k l, z = ⟨r, c, A, r * c, k, l⟩ := by
  obtain ⟨zr, zc, A, n, k, l⟩ := z
  obtain ⟨h1, h2, h3, h4, h5⟩ := id h.sh
  dsimp only at h1 h2 h5
  subst h1 h2 h5
  exact ⟨A, k, l, rfl⟩
theorem psum_congr {f g : Nat → Int} {n : Nat} (h : ∀ q, q < n → f q = g q) : psum f n = psum g n := by
  induction n with
  | zero => rfl
  | succ n ih => rw [psum, psum, ih (fun q hq => h q (by omega)), h n (by omega)]
theorem psum_add (f g : Nat → Int) (n : Nat) : psum (fun q => f q + g q) n = psum f n + psum g n := by
  induction n with
  | zero => rfl
  | succ n ih => rw [psum, psum, psum, ih]; omega
theorem psum_mul (c : Int) (f : Nat → Int) (n : Nat) : psum (fun q => c * f q) n = c * psum f n := by
  induction n with
  | zero => rw [psum, psum, Int.mul_zero]
  | succ n ih => rw [psum, psum, ih, Int.mul_add]
theorem psum_unit (f : Nat → Int) (i n : Nat) : psum (fun q => (if i = q then 1 else 0) * f q) n = if i < n then f i else 0 := by
  induction n with
  | zero => rfl
  | succ n ih =>
    rw [psum, ih]
    rcases Nat.lt_trichotomy i n with h | h | h
    · rw [if_pos h, if_neg (show ¬ i = n by omega), if_pos (by omega)]; omega
    · subst h; rw [if_neg (Nat.lt_irrefl i), if_pos (rfl : i = i), if_pos (by omega)]; omega
    · rw [if_neg (show ¬ i < n by omega), if_neg (show ¬ i = n by omega), if_neg (by omega)]; omega
end Go.Proofs.Ytdhmhjbmkimplaa

namespace Go.Proofs.Ytdhmhjbmkimplaa
open Go Go.Eng Go.Proofs Go.NatM Go.ChangeShapes Go.WideShapes Go.ChangeAt Go.RowKit

theorem spot_none {w : World} {a : Addr} {v : Value} (h : w.cell? a = some v) : a = ⟨a.block, a.off, none⟩ := by
  cases a with
  | mk b o s =>
    cases s with
    | none => rfl
    | some s => unfold World.cell? at h; split at h <;> simp at h
theorem getD_map_toNat (zs : List Int) (hz : ∀ z ∈ zs, 0 ≤ z) (j : Nat) (hj : j < zs.length) : ((zs.map Int.toNat)[j]?).map (fun x : Nat => (x : Int)) = some (zs.getD j 0) := by
  simp [List.getD, hj, Int.toNat_of_nonneg (hz _ (List.getElem_mem hj))]
end Go.Proofs.Ytdhmhjbmkimplaa

namespace Go.Proofs.Ytdhmhjbmkimplaa
open Go Go.Eng Go.Proofs Go.NatM

theorem bulk_one {H : Type} (d : DataW H) : 1 ≤ Rows.uptoBulk d := by
  cases d with
  | lit l => cases l <;> simp [Rows.uptoBulk]
  | nil => simp [Rows.uptoBulk]
  | ptr d => simp [Rows.uptoBulk]
  | slice elems spare => simp [Rows.uptoBulk]
  | agg parts => simp [Rows.uptoBulk]
  | iface t d => simp [Rows.uptoBulk]
  | map entries => simp [Rows.uptoBulk]
  | held h => simp [Rows.uptoBulk]
theorem bulk_part {H : Type} {d : DataW H} {l : List (DataW H)} (h : d ∈ l) : Rows.uptoBulk d ≤ Rows.uptoBulkAll l := by
  induction l with
  | nil => cases h
  | cons x r ih =>
    simp only [Rows.uptoBulkAll]
    cases List.mem_cons.1 h with
    | inl e => subst e; omega
    | inr e => have := ih e; omega
theorem bulk_length {H : Type} (l : List (DataW H)) : l.length ≤ Rows.uptoBulkAll l := by
  induction l with
  | nil => simp [Rows.uptoBulkAll]
  | cons x r ih => have := bulk_one x; simp only [Rows.uptoBulkAll, List.length_cons]; omega
theorem small_all {H : Type} {ds gs : List (DataW H)} (h : Rows.uptoSmall H (ds ++ gs) = true) : Rows.uptoBulkAll (ds ++ gs) ≤ 1048576 := of_decide_eq_true h
theorem small_part {H : Type} {ds gs : List (DataW H)} (h : Rows.uptoSmall H (ds ++ gs) = true) {j : Nat} {d : DataW H} (hd : (ds ++ gs)[j]? = some d) : Rows.uptoBulk d ≤ 1048576 := by
  have h1 := small_all h
  have h2 := bulk_part (List.mem_of_getElem? hd)
  omega
end Go.Proofs.Ytdhmhjbmkimplaa

namespace Go.Proofs.Ytdhmhjbmkimplaa
open Go Go.Eng Go.Proofs Go.NatM

end Go.Proofs.Ytdhmhjbmkimplaa

namespace Go.Proofs.Ytdhmhjbmkimplaa
open Go Go.Eng Go.Proofs Go.NatM

end Go.Proofs.Ytdhmhjbmkimplaa

namespace Go.Proofs.Ytdhmhjbmkimplaa
open Go Go.Eng Go.Proofs Go.NatM

/-- the words of each -/
def LS (H : Array Obj) (B : Nat) (L : List (SA Nat)) : Prop := ∀ x ∈ L, Sl u64v H B x.A x.n x.c x.l ∧ U64 x.l
theorem LS.ext {w w' : World} {B : Nat} {L : List (SA Nat)} (hb : Ext w w') (h : LS w.heap B L) : LS w'.heap B L := fun x hx => ⟨(h x hx).1.ext hb, (h x hx).2⟩
theorem LS.take {H : Array Obj} {B : Nat} {L : List (SA Nat)} (h : LS H B L) (k : Nat) : LS H B (L.take k) := fun x hx => h x (List.mem_of_mem_take hx)
theorem LS.drop {H : Array Obj} {B : Nat} {L : List (SA Nat)} (h : LS H B L) (k : Nat) : LS H B (L.drop k) := fun x hx => h x (List.mem_of_mem_drop hx)
end Go.Proofs.Ytdhmhjbmkimplaa

namespace Go.Proofs.Ytdhmhjbmkimplaa
open Go Go.Eng Go.Proofs Go.NatM Go.ChangeShapes Go.WideShapes Go.ChangeAt Go.RowKit Go.Deep

/-- a slice of words, by its cells -/
theorem open_u64c {H : Type} {enc : TypeId × Value → H} {P : Program} {t e : TypeId} {W : World} {base : Nat} {spare : Nat → Bool} {held : Bool} {v : Value} {d : DataW H} {ps : List MemPlace} {fuel : Nat}
    (ht : P.underlying t = some (.slice e)) (he : P.underlying e = some (.int .u64)) (hc : P.cellsOf e = 1) (hf : DataW.trod enc P W base spare held fuel t [v] = some (d, ps)) :
    ∃ x : SA Nat, v = sav x ∧ Sl u64v W.heap W.heap.size x.A x.n x.c x.l ∧ U64 x.l ∧ x.n + 1 ≤ Rows.uptoBulk d := by
  rcases open_ints ht he hc hf with ⟨hcs, hx⟩ | ⟨a, len, cap, zs, hcs, hb, hl, hm, hz, hx, hcell, hwz⟩
  · cases hcs
    cases hx
    exact ⟨⟨none, 0, 0, []⟩, rfl, Sl.nil _ _ _ _ _, U64.nil, bulk_one _⟩
  · cases hcs
    cases hx
    have hlen : len ≤ zs.length := by split at hz <;> omega
    have hr : ∀ z ∈ zs, 0 ≤ z ∧ z < 18446744073709551616 := fun z hz' => by
      have := hwz z hz'
      simp [Lit.wf, IntKind.min, IntKind.max, IntKind.signed, IntKind.bits] at this
      omega
    refine ⟨⟨some a, len, cap, (zs.take len).map Int.toNat⟩, rfl, ⟨by simp; omega, hl, ?_⟩, ?_, ?_⟩
    · rcases Nat.eq_zero_or_pos len with h0 | h0
      · exact .inl h0
      · have hc0 := hcell 0 (by omega)
        have ha0 : a.add 0 = a := by simp [Addr.add]
        rw [ha0] at hc0
        have hs := spot_none hc0
        refine .inr ⟨a.block, a.off, by rw [← hs], World.block_lt_of_cell? W a hc0, fun j x hx' => ?_⟩
        have hj : j < len := by
          have := (List.getElem?_eq_some_iff.1 hx').1
          simp at this; omega
        have hcj := hcell j (by omega)
        rw [hs, add_mk, cell_of_hcell] at hcj
        rw [hcj]
        have e1 : (zs.take len).getD j 0 = zs.getD j 0 := by simp [List.getD, List.getElem?_take, hj]
        have e2 := getD_map_toNat (zs.take len) (fun z hz' => (hr z (List.mem_of_mem_take hz')).1) j (by simp; omega)
        rw [hx', e1] at e2
        simp at e2
        show some (Value.int .u64 _) = some (Value.int .u64 _)
        simp only [List.getD] at e2 ⊢
        rw [← e2]
    · intro x hx'
      obtain ⟨z, hz', rfl⟩ := List.mem_map.1 hx'
      have := hr z (List.mem_of_mem_take hz')
      omega
    · have h1 := bulk_length (lits (H := H) .u64 (zs.take len))
      have h2 : (lits (H := H) .u64 (zs.take len)).length = len := by simp [lits]; omega
      simp only [Rows.uptoBulk]
      show len + 1 ≤ _
      omega
end Go.Proofs.Ytdhmhjbmkimplaa

namespace Go.Proofs.Ytdhmhjbmkimplaa
open Go Go.Eng Go.Proofs Go.NatM Go.ChangeShapes Go.WideShapes Go.ChangeAt Go.RowKit Go.Deep

def wts {α : Type} (wt : α → Nat) : List α → Nat
  | [] => 0
  | x :: l => wt x + wts wt l
theorem wts_mem {α : Type} {wt : α → Nat} {x : α} {l : List α} (h : x ∈ l) : wt x ≤ wts wt l := by
  induction l with
  | nil => cases h
  | cons y l ih =>
    simp only [wts]
    rcases List.mem_cons.1 h with rfl | h'
    · omega
    · have := ih h'; omega
theorem wts_bulk {H α : Type} {wt : α → Nat} (X : Nat → α) (D : Nat → DataW H) : ∀ is : List Nat, (∀ i ∈ is, wt (X i) ≤ Rows.uptoBulk (D i)) → wts wt (is.map X) ≤ Rows.uptoBulkAll (is.map D)
  | [], _ => by simp [wts]
  | i :: is, h => by
    have h1 := h i (by simp)
    have h2 := wts_bulk X D is (fun j hj => h j (by simp [hj]))
    simp only [List.map_cons, wts, Rows.uptoBulkAll]
    omega
/-- an int, by its cell -/
theorem open_i64c {H : Type} {enc : TypeId × Value → H} {P : Program} {t : TypeId} {W : World} {base : Nat} {spare : Nat → Bool} {held : Bool} {cs : List Value} {x : DataW H × List MemPlace} {fuel : Nat}
    (ht : P.underlying t = some (.int .i64)) (hf : DataW.trod enc P W base spare held fuel t cs = some x) : ∃ z : Int, cs = [.int .i64 z] ∧ -9223372036854775808 ≤ z ∧ z < 9223372036854775808 := by
  obtain ⟨m, rfl, _, hw⟩ := DataW.trod_int ht hf
  refine ⟨m, rfl, ?_⟩
  simp [Lit.wf, IntKind.min, IntKind.max, IntKind.signed, IntKind.bits] at hw
  omega
/-- a slice of words, by its cells -/
theorem open_u64d {H : Type} {enc : TypeId × Value → H} {P : Program} {t e : TypeId} {W : World} {base : Nat} {spare : Nat → Bool} {held : Bool} {cs : List Value} {x : DataW H × List MemPlace} {fuel : Nat}
    (ht : P.underlying t = some (.slice e)) (he : P.underlying e = some (.int .u64)) (hc : P.cellsOf e = 1) (hf : DataW.trod enc P W base spare held fuel t cs = some x) :
    ∃ y : SA Nat, cs = [sav y] ∧ Sl u64v W.heap W.heap.size y.A y.n y.c y.l ∧ U64 y.l ∧ y.n + 1 ≤ Rows.uptoBulk x.1 := by
  rcases DataW.trod_slice ht hf with ⟨rfl, _⟩ | ⟨a, len, cap, _, _, _, _, rfl, _⟩
  · obtain ⟨y, e1, r⟩ := open_u64c (d := x.1) (ps := x.2) ht he hc hf <;> exact ⟨y, by rw [e1], r⟩
  · obtain ⟨y, e1, r⟩ := open_u64c (d := x.1) (ps := x.2) ht he hc hf <;> exact ⟨y, by rw [e1], r⟩
/-- a slice of values of k cells -/
theorem open_elems {H α : Type} [Inhabited α] {enc : TypeId × Value → H} {P : Program} {t e : TypeId} {W : World} {base : Nat} {spare : Nat → Bool} {held : Bool} {cs : List Value} {x : DataW H × List MemPlace} {fuel k : Nat}
    (f : α → List Value) (G : α → Prop) (wt : α → Nat) (hk : 0 < k) (hf : ∀ y, (f y).length = k) (ht : P.underlying t = some (.slice e)) (hc : P.cellsOf e = k)
    (elem : ∀ n cs' x, DataW.trod enc P W base spare held n e cs' = some x → ∃ y, cs' = f y ∧ G y ∧ wt y ≤ Rows.uptoBulk x.1)
    (h : DataW.trod enc P W base spare held fuel t cs = some x) :
    ∃ A n c L, cs = [.slice A n c] ∧ Sm k f W.heap W.heap.size A n c L ∧ (∀ y ∈ L, G y) ∧ wts wt L + 1 ≤ Rows.uptoBulk x.1 ∧ n + 1 ≤ Rows.uptoBulk x.1 := by
  rcases open_slice ht h with ⟨rfl, rfl⟩ | ⟨a, len, cap, m, n, D, Pl, rfl, hb, hl, hm, hmm, rfl, hx⟩
  · exact ⟨none, 0, 0, [], rfl, Sm.nil hk _ _ _ _ _, fun y hy => (by cases hy), by simp [wts, Rows.uptoBulk], by simp [Rows.uptoBulk]⟩
  · have hlm : len ≤ m := by split at hmm <;> omega
    rw [hc] at hx
    obtain ⟨X, hX⟩ := choose_lt (n := len) (p := fun i (y : α) => W.cells? base (a.add (i * k)) k = some (f y) ∧ G y ∧ wt y ≤ Rows.uptoBulk (D i)) (fun i hi => by
      obtain ⟨cs', h1, h2⟩ := hx i (by omega)
      obtain ⟨y, rfl, g1, g2⟩ := elem n cs' _ h2
      exact ⟨y, h1, g1, g2⟩)
    refine ⟨some a, len, cap, (List.range len).map X, rfl, ⟨by simp, hl, hk, fun y hy => hf y, ?_⟩, ?_, ?_, ?_⟩
    · rcases Nat.eq_zero_or_pos len with h0 | h0
      · exact .inl h0
      · have hc0 := (hX 0 (by omega)).1
        obtain ⟨_, hl0, hc0⟩ := World.cells?_some hc0
        have hc1 := hc0 0 hk
        obtain ⟨v0, hv0⟩ : ∃ v0, (f (X 0))[0]? = some v0 := ⟨_, List.getElem?_eq_getElem (by rw [hf]; exact hk)⟩
        rw [hv0] at hc1
        have e0 : (a.add (0 * k)).add 0 = a := by simp [Addr.add]
        rw [e0] at hc1
        have hs := spot_none hc1
        refine .inr ⟨a.block, a.off, by rw [← hs], World.block_lt_of_cell? W a hc1, fun j y hy q v hv => ?_⟩
        have hj : j < len := by
          have := (List.getElem?_eq_some_iff.1 hy).1
          simpa using this
        rw [List.getElem?_map, List.getElem?_range hj] at hy
        simp at hy
        subst hy
        obtain ⟨_, hlj, hcj⟩ := World.cells?_some (hX j hj).1
        have hq : q < k := by have := (List.getElem?_eq_some_iff.1 hv).1; rwa [hf] at this
        have := hcj q hq
        rw [hv, hs, add_mk, add_mk, cell_of_hcell, Nat.add_assoc] at this
        exact this
    · intro y hy
      obtain ⟨i, hi, rfl⟩ := List.mem_map.1 hy
      exact (hX i (List.mem_range.1 hi)).2.1
    · have := wts_bulk X D (List.range len) (fun i hi => (hX i (List.mem_range.1 hi)).2.2)
      simp only [Rows.uptoBulk]
      omega
    · have h1 := bulk_length ((List.range len).map D)
      simp only [List.length_map, List.length_range] at h1
      simp only [Rows.uptoBulk]
      omega
end Go.Proofs.Ytdhmhjbmkimplaa

namespace Go.Proofs.Ytdhmhjbmkimplaa
open Go Go.Eng Go.Proofs Go.NatM Go.ChangeShapes Go.WideShapes Go.ChangeAt Go.RowKit Go.Deep

theorem len2 {α : Type} {l : List α} (h : l.length = 2) : ∃ a b, l = [a, b] := by
  match l, h with
  | [a, b], _ => exact ⟨a, b, rfl⟩
theorem len3 {α : Type} {l : List α} (h : l.length = 3) : ∃ a b c, l = [a, b, c] := by
  match l, h with
  | [a, b, c], _ => exact ⟨a, b, c, rfl⟩
theorem len4 {α : Type} {l : List α} (h : l.length = 4) : ∃ a b c d, l = [a, b, c, d] := by
  match l, h with
  | [a, b, c, d], _ => exact ⟨a, b, c, d, rfl⟩
def ivw (x : IV) : Nat := x.m.n
theorem open_int {H : Type} {enc : TypeId × Value → H} {W : World} {base : Nat} {spare : Nat → Bool} {held : Bool} (m : Nat) (cs : List Value) (x : DataW H × List MemPlace)
    (h : DataW.trod enc Try.prog W base spare held m 40 cs = some x) : ∃ y : IV, cs = ivc y ∧ GI W.heap y ∧ ivw y ≤ Rows.uptoBulk x.1 := by
  obtain ⟨xs, q, _, rfl, hl, hxl, hall⟩ := DataW.trod_struct Try.underlying40 h
  have hl' : cs.length = 2 := hl.trans (by kernel_rfl)
  have hxl' : xs.length = 2 := hxl.trans rfl
  obtain ⟨v0, v1, rfl⟩ := len2 hl'
  obtain ⟨x0, x1, rfl⟩ := len2 hxl'
  have cb : Try.prog.cellsOf 4 = 1 := by kernel_rfl
  have cu : Try.prog.cellsOf 38 = 1 := by kernel_rfl
  have h0 : DataW.trod enc Try.prog W base spare held q 4 (([v0, v1].drop 0).take (Try.prog.cellsOf 4)) = some x0 := hall 0 _ rfl
  rw [cb] at h0
  have h1 : DataW.trod enc Try.prog W base spare held q 38 (([v0, v1].drop 1).take (Try.prog.cellsOf 38)) = some x1 := hall 1 _ rfl
  rw [cu] at h1
  obtain ⟨b, e0, _⟩ := DataW.trod_bool Try.underlying4 h0
  obtain rfl : v0 = .bool b := by simpa using e0
  obtain ⟨y1, e1, s1, u1, m1⟩ := open_u64d Try.underlying38 Try.underlying85 (by kernel_rfl) h1
  obtain rfl : v1 = sav y1 := by simpa using e1
  refine ⟨⟨b, y1⟩, rfl, ⟨s1, u1⟩, ?_⟩
  simp only [ivw, List.map_cons, List.map_nil, Rows.uptoBulk, Rows.uptoBulkAll]
  omega
/-- what is read of a matrix -/
structure RM0 (H : Array Obj) (x : MV) : Prop where
  s : Sm 2 ivc H H.size x.A x.n x.k x.l
  g : ∀ y ∈ x.l, GI H y
set_option maxRecDepth 10000 in
theorem open_matc {H : Type} {enc : TypeId × Value → H} {W : World} {base : Nat} {spare : Nat → Bool} {held : Bool} (m : Nat) (cs : List Value) (x : DataW H × List MemPlace)
    (h : DataW.trod enc Try.prog W base spare held m 24 cs = some x) : ∃ y : MV, cs = mvc y ∧ RM0 W.heap y ∧ wts ivw y.l ≤ Rows.uptoBulk x.1 := by
  obtain ⟨xs, q, _, rfl, hl, hxl, hall⟩ := DataW.trod_struct Try.underlying24 h
  have hl' : cs.length = 3 := hl.trans (by kernel_rfl)
  have hxl' : xs.length = 3 := hxl.trans rfl
  obtain ⟨v0, v1, v2, rfl⟩ := len3 hl'
  obtain ⟨x0, x1, x2, rfl⟩ := len3 hxl'
  have ci : Try.prog.cellsOf 3 = 1 := by kernel_rfl
  have cl : Try.prog.cellsOf 22 = 1 := by kernel_rfl
  have h0 : DataW.trod enc Try.prog W base spare held q 3 (([v0, v1, v2].drop 0).take (Try.prog.cellsOf 3)) = some x0 := hall 0 _ rfl
  rw [ci] at h0
  have h1 : DataW.trod enc Try.prog W base spare held q 3 (([v0, v1, v2].drop 1).take (Try.prog.cellsOf 3)) = some x1 := hall 1 _ rfl
  rw [ci] at h1
  have h2 : DataW.trod enc Try.prog W base spare held q 22 (([v0, v1, v2].drop 2).take (Try.prog.cellsOf 22)) = some x2 := hall 2 _ rfl
  rw [cl] at h2
  obtain ⟨z0, e0, b0⟩ := open_i64c Try.underlying3 h0
  obtain rfl : v0 = .int .i64 z0 := by simpa using e0
  obtain ⟨z1, e1, b1⟩ := open_i64c Try.underlying3 h1
  obtain rfl : v1 = .int .i64 z1 := by simpa using e1
  obtain ⟨A, n, c, L, e2, s2, g2, m2, m3⟩ := open_elems ivc (GI W.heap) ivw (show 0 < 2 by omega) (fun _ => rfl) Try.underlying22 (by kernel_rfl) (fun m cs x h => open_int m cs x h) h2
  obtain rfl : v2 = .slice A n c := by simpa using e2
  refine ⟨⟨z0, z1, A, n, c, L⟩, rfl, ⟨s2, g2⟩, ?_⟩
  simp only [List.map_cons, List.map_nil, Rows.uptoBulk, Rows.uptoBulkAll]
  omega
set_option maxRecDepth 10000 in
theorem open_mat {H : Type} {enc : TypeId × Value → H} {W : World} {base base' : Nat} {spare : Nat → Bool} {held : Bool} {v : Value} {d : DataW H} {ps : List MemPlace}
    (hv : Value.okWide Try.prog W .any base' 24 v) (h : DataW.Trod enc Try.prog W base spare held 24 v d ps) :
    ∃ y : MV, v = .agg (mvc y).toArray ∧ RM0 W.heap y ∧ wts ivw y.l ≤ Rows.uptoBulk d := by
  obtain ⟨cs, rfl, _⟩ := okWide_struct Try.underlying24 hv
  obtain ⟨fuel, hf⟩ := h
  obtain ⟨y, e, r⟩ := open_matc fuel _ (d, ps) hf
  have e' : cs.toList = mvc y := e
  refine ⟨y, ?_, r⟩
  rw [← e']
theorem small_mat {H : Array Obj} {y : MV} {b : Nat} (h : b ≤ 1048576) (r : RM0 H y) (hn : wts ivw y.l ≤ b) : RM H y 1048576 := ⟨r.s, fun x hx => ⟨r.g x hx, Nat.le_trans (wts_mem (wt := ivw) hx) (Nat.le_trans hn h)⟩⟩
end Go.Proofs.Ytdhmhjbmkimplaa

namespace Go.Eng
open Go Go.RowKit

/-- no flag -/
def flagless : Value → Bool
  | .bool _ => false
  | _ => true
/-- a map's block, or that of a walk over a map -/
def mapO : Obj → Bool
  | .map .. => true
  | .mapIter .. => true
  | _ => false
/-- data stand: a block of F, or with a word among its cells, is as it was -/
structure DE (F : Nat → Prop) (H H' : Array Obj) : Prop where
  size : H.size ≤ H'.size
  block : ∀ (k : Nat) (cs : Array Value) (t : TypeId) (x : Nat × Nat), H[k]? = some (.cells cs t x) → F k ∨ cs.toList.all noU64 = false → H'[k]? = H[k]?
  maps : ∀ (k : Nat) (o : Obj), H[k]? = some o → mapO o = true → F k → H'[k]? = H[k]?
theorem DE.ext {F : Nat → Prop} {w w' : World} (h : Ext w w') : DE F w.heap w'.heap := ⟨h.size, fun k cs t x hk _ => h.block k (Array.getElem?_eq_some_iff.1 hk).1, fun k o hk _ _ => h.block k (Array.getElem?_eq_some_iff.1 hk).1⟩
theorem DE.mono {F F' : Nat → Prop} {H H' : Array Obj} (h : DE F H H') (hF : ∀ k, F' k → F k) : DE F' H H' := ⟨h.size, fun k cs t x hk hc => h.block k cs t x hk (hc.imp (hF k) id), fun k o hk ho hf => h.maps k o hk ho (hF k hf)⟩
theorem DE.upd {F : Nat → Prop} {w w' : World} {b : Nat} {t : TypeId} {cs : List Value} (hu : Upd b w w') (hV : Vr w.heap b t cs) (hc : cs.all noU64 = true) (hF : ¬ F b) : DE F w.heap w'.heap :=
  ⟨Nat.le_of_eq hu.size.symm, (fun k cs' t' x hk hd => by
    refine hu.block k fun e => ?_
    subst e
    unfold Vr at hV
    rw [hV] at hk
    cases hk
    simp only [List.toList_toArray] at hd
    rw [hc] at hd
    rcases hd with hd | hd
    · exact hF hd
    · cases hd), fun k o hk _ hf => hu.block k fun e => hF (e ▸ hf)⟩
theorem hcell_eq {H H' : Array Obj} {b i : Nat} {v : Value} (h : H'[b]? = H[b]?) (hv : hcell H b i = some v) : hcell H' b i = some v := by
  unfold hcell at hv ⊢
  rw [h]; exact hv
theorem hcell_obj {H : Array Obj} {b i : Nat} {v : Value} (hv : hcell H b i = some v) : ∃ (cs : Array Value) (t : TypeId) (x : Nat × Nat), H[b]? = some (.cells cs t x) ∧ v ∈ cs.toList := by
  unfold hcell at hv
  split at hv
  · rename_i cs t x hb
    exact ⟨cs, t, x, hb, by rw [Array.mem_toList_iff]; exact Array.mem_of_getElem? hv⟩
  · cases hv
theorem all_false {f : Value → Bool} {l : List Value} {v : Value} (h : v ∈ l) (hf : f v = false) : l.all f = false := by
  cases hq : l.all f with
  | false => rfl
  | true => rw [List.all_eq_true.1 hq v h] at hf; cases hf
/-- the blocks of a slice -/
def fpA (A : Option Addr) (n : Nat) (k : Nat) : Prop := 0 < n ∧ ∃ o, A = some ⟨k, o, none⟩
theorem Sl.de {F : Nat → Prop} {H H' : Array Obj} {B n c : Nat} {A : Option Addr} {l : List Nat} (hd : DE F H H') (h : Sl u64v H B A n c l) : Sl u64v H' B A n c l := by
  refine ⟨h.len, h.cap, ?_⟩
  rcases h.mem with h0 | ⟨b, o, e, hlt, hm⟩
  · exact .inl h0
  · rcases Nat.eq_zero_or_pos n with h0 | h0
    · exact .inl h0
    · have hl : 0 < l.length := by have := h.len; omega
      have h1 := hm 0 l[0] (List.getElem?_eq_getElem hl)
      obtain ⟨cs, t, x, hb, hv⟩ := hcell_obj h1
      have hq := hd.block b cs t x hb (.inr (all_false hv rfl))
      exact .inr ⟨b, o, e, hlt, fun j x hx => hcell_eq hq (hm j x hx)⟩
theorem Sm.de {α : Type} {k : Nat} {f : α → List Value} {F : Nat → Prop} {H H' : Array Obj} {B n c : Nat} {A : Option Addr} {l : List α} (hF : ∀ b, fpA A n b → F b) (hd : DE F H H') (h : Sm k f H B A n c l) : Sm k f H' B A n c l := by
  refine ⟨h.len, h.cap, h.pos, h.wid, ?_⟩
  rcases h.in_heap with h0 | ⟨b, o, e, hlt, hh, hm⟩
  · exact .inl h0
  · rcases Nat.eq_zero_or_pos n with h0 | h0
    · exact .inl h0
    · have hl : 0 < l.length := by have := h.len; omega
      have hw := h.wid l[0] (List.getElem_mem hl)
      have hp := h.pos
      have h1 := hm 0 l[0] (List.getElem?_eq_getElem hl) 0 (f l[0])[0] (List.getElem?_eq_getElem (by omega))
      obtain ⟨cs, t, x, hb, hv⟩ := hcell_obj h1
      have hq := hd.block b cs t x hb (.inl (hF b ⟨h0, o, e⟩))
      exact .inr ⟨b, o, e, hlt, fun j x hx q v hv => hcell_eq hq (hm j x hx q v hv)⟩
theorem Sm.fp_lt {α : Type} {k : Nat} {f : α → List Value} {H : Array Obj} {n c : Nat} {A : Option Addr} {l : List α} (h : Sm k f H H.size A n c l) {b : Nat} (hb : fpA A n b) : b < H.size := by
  obtain ⟨h0, o, e⟩ := hb
  rcases h.mem with h1 | ⟨b', o', e', hlt, _⟩
  · omega
  · rw [e] at e'; cases e'; exact hlt
theorem Sm.fp_flag {H : Array Obj} {B n c b : Nat} {A : Option Addr} {l : List IV} {t : TypeId} {cs : List Value} (h : Sm 2 ivc H B A n c l) (hb : fpA A n b) (hV : Vr H b t cs) (hc : cs.all flagless = true) : False := by
  obtain ⟨h0, o, e⟩ := hb
  rcases h.mem with h1 | ⟨b', o', e', hlt, hm⟩
  · omega
  · rw [e] at e'; cases e'
    have hl : 0 < l.length := by have := h.len; omega
    have h1 := hm 0 l[0] (List.getElem?_eq_getElem hl) 0 (.bool l[0].neg) rfl
    rw [hV.cell] at h1
    have h2 := List.all_eq_true.1 hc _ (List.mem_of_getElem? h1)
    cases h2

/-- what stood stands, but for the blocks of S -/
structure Exs (S : Nat → Prop) (w w' : World) : Prop where
  os : w'.os = w.os
  tape : w'.tape = w.tape
  output : w'.output = w.output
  size : w.heap.size ≤ w'.heap.size
  block : ∀ k, k < w.heap.size → ¬ S k → w'.heap[k]? = w.heap[k]?
theorem Exs.refl (S : Nat → Prop) (w : World) : Exs S w w := ⟨rfl, rfl, rfl, Nat.le_refl _, fun _ _ _ => rfl⟩
theorem Exs.of {S : Nat → Prop} {w w' : World} (h : Ext w w') : Exs S w w' := ⟨h.os, h.tape, h.output, h.size, fun k hk _ => h.block k hk⟩
theorem Exs.trans {S : Nat → Prop} {a b c : World} (h : Exs S a b) (k : Exs S b c) : Exs S a c :=
  ⟨k.os.trans h.os, k.tape.trans h.tape, k.output.trans h.output, Nat.le_trans h.size k.size, fun i hi hs => (k.block i (Nat.lt_of_lt_of_le hi h.size) hs).trans (h.block i hi hs)⟩
theorem Exs.mono {S S' : Nat → Prop} {a b : World} (h : Exs S a b) (hs : ∀ k, k < a.heap.size → S k → S' k) : Exs S' a b := ⟨h.os, h.tape, h.output, h.size, fun k hk hn => h.block k hk fun e => hn (hs k hk e)⟩
theorem Exs.ext {S : Nat → Prop} {a b : World} (h : Exs S a b) (hs : ∀ k, k < a.heap.size → ¬ S k) : Ext a b := ⟨h.os, h.tape, h.output, h.size, fun k hk => h.block k hk (hs k hk)⟩
theorem Exs.ext0 {a b : World} (h : Exs (fun _ => False) a b) : Ext a b := h.ext fun _ _ h => h
/-- .. seen from w0, of which the blocks of S may be written, and all that came later -/
theorem Exs.then {S S' : Nat → Prop} {w0 a b : World} (h : Exs S w0 a) (k : Exs S' a b) (hs : ∀ i, i < w0.heap.size → S' i → S i) : Exs S w0 b :=
  ⟨k.os.trans h.os, k.tape.trans h.tape, k.output.trans h.output, Nat.le_trans h.size k.size, fun i hi hn => (k.block i (Nat.lt_of_lt_of_le hi h.size) fun e => hn (hs i hi e)).trans (h.block i hi hn)⟩
theorem Upd.exs {g : Nat} {w w' : World} (h : Upd g w w') : Exs (fun k => k = g) w w' := ⟨h.os, h.tape, h.output, Nat.le_of_eq h.size.symm, fun k _ hn => h.block k hn⟩
/-- a fact on data, and the blocks, beside those of words, that it looks at -/
structure DP where
  p : Array Obj → Prop
  fp : Nat → Prop
  lt : ∀ H k, p H → fp k → k < H.size
  st : ∀ H H', DE fp H H' → p H → p H'
/-- a block known whole -/
structure VB where
  b : Nat
  t : TypeId
  cs : List Value
/-- S: older blocks that may be written -/
structure Fr (w0 w : World) (L : List VB) (D : List DP) (S : Nat → Prop := fun _ => False) : Prop where
  exs : Exs S w0 w
  vars : ∀ v ∈ L, (w0.heap.size ≤ v.b ∨ S v.b) ∧ Vr w.heap v.b v.t v.cs
  dist : L.Pairwise (fun x y => x.b ≠ y.b)
  data : ∀ d ∈ D, d.p w.heap
  apart : ∀ v ∈ L, ∀ d ∈ D, ¬ d.fp v.b
inductive InV : List VB → Nat → TypeId → List Value → Prop
  | head {L : List VB} {b : Nat} {t : TypeId} {cs : List Value} : InV (⟨b, t, cs⟩ :: L) b t cs
  | tail {x : VB} {L : List VB} {b : Nat} {t : TypeId} {cs : List Value} : InV L b t cs → InV (x :: L) b t cs
theorem InV.mem {L : List VB} {b : Nat} {t : TypeId} {cs : List Value} (h : InV L b t cs) : ⟨b, t, cs⟩ ∈ L := by
  induction h with
  | head => exact List.mem_cons_self ..
  | tail _ ih => exact List.mem_cons_of_mem _ ih
inductive SetV : List VB → Nat → TypeId → List Value → List Value → List VB → Prop
  | head {L : List VB} {b : Nat} {t : TypeId} {cs r : List Value} : SetV (⟨b, t, cs⟩ :: L) b t cs r (⟨b, t, r⟩ :: L)
  | tail {x : VB} {L L' : List VB} {b : Nat} {t : TypeId} {cs r : List Value} : SetV L b t cs r L' → SetV (x :: L) b t cs r (x :: L')
theorem SetV.inV {L L' : List VB} {b : Nat} {t : TypeId} {cs r : List Value} (h : SetV L b t cs r L') : InV L b t cs := by
  induction h with
  | head => exact .head
  | tail _ ih => exact .tail ih
theorem SetV.split {L L' : List VB} {b : Nat} {t : TypeId} {cs r : List Value} (h : SetV L b t cs r L') : ∃ pre post, L = pre ++ ⟨b, t, cs⟩ :: post ∧ L' = pre ++ ⟨b, t, r⟩ :: post := by
  induction h with
  | head => exact ⟨[], _, rfl, rfl⟩
  | @tail x L L' _ _ _ _ _ ih =>
    obtain ⟨pre, post, h1, h2⟩ := ih
    exact ⟨x :: pre, post, by rw [h1]; rfl, by rw [h2]; rfl⟩
theorem memH {d : DP} {D : List DP} : d ∈ d :: D := List.mem_cons_self ..
theorem memT {d x : DP} {D : List DP} (h : d ∈ D) : d ∈ x :: D := List.mem_cons_of_mem _ h
section
variable {S : Nat → Prop} {w0 w w' : World} {L L' : List VB} {D D' : List DP} {b : Nat} {t : TypeId} {cs r : List Value}
theorem Fr.refl (w : World) : Fr w w [] [] := ⟨Exs.refl _ _, fun _ h => (by cases h), List.Pairwise.nil, fun _ h => (by cases h), fun _ h => (by cases h)⟩
theorem Fr.ext (h : Fr w0 w L D) : Ext w0 w := h.exs.ext0
theorem Fr.add (h : Fr w0 w L D S) (d : DP) (hd : d.p w.heap) (ha : ∀ v ∈ L, ¬ d.fp v.b) : Fr w0 w L (d :: D) S := ⟨h.exs, h.vars, h.dist, fun x hx => by
  rcases List.mem_cons.1 hx with rfl | hx
  · exact hd
  · exact h.data x hx, fun v hv x hx => by
  rcases List.mem_cons.1 hx with rfl | hx
  · exact ha v hv
  · exact h.apart v hv x hx⟩
theorem Fr.exts (h : Fr w0 w L D S) (hE : Ext w w') : Fr w0 w' L D S :=
  ⟨h.exs.trans (.of hE), fun v hv => ⟨(h.vars v hv).1, (h.vars v hv).2.ext hE⟩, h.dist, fun d hd => d.st _ _ (DE.ext hE) (h.data d hd), h.apart⟩
/-- data in blocks that are not older than w -/
theorem Fr.addNew (h : Fr w0 w L D S) (hE : Ext w w') (d : DP) (hd : d.p w'.heap) (hn : ∀ k, d.fp k → w.heap.size ≤ k) : Fr w0 w' L (d :: D) S :=
  (h.exts hE).add d hd fun v hv hk => by have h1 := (h.vars v hv).2.lt; have h2 := hn _ hk; omega
theorem Fr.var (h : Fr w0 w L D S) (hv : InV L b t cs) : Vr w.heap b t cs := (h.vars _ hv.mem).2
theorem Fr.lo (h : Fr w0 w L D S) (hv : InV L b t cs) : w0.heap.size ≤ b ∨ S b := (h.vars _ hv.mem).1
theorem Fr.new (h : Fr w0 w L D S) (hb : b = w.heap.size) (hV : Vr w'.heap b t cs) (hE : Ext w w') : Fr w0 w' (⟨b, t, cs⟩ :: L) D S := by
  have h1 := h.exts hE
  refine ⟨h1.exs, fun v hv => ?_, List.pairwise_cons.2 ⟨fun v hv e => ?_, h.dist⟩, h1.data, fun v hv d hd => ?_⟩
  · rcases List.mem_cons.1 hv with rfl | hv
    · exact ⟨.inl (by rw [hb]; exact h.exs.size), hV⟩
    · exact h1.vars v hv
  · have := (h.vars v hv).2.lt
    simp only at e
    omega
  · rcases List.mem_cons.1 hv with rfl | hv
    · intro hk
      have := d.lt _ _ (h.data d hd) hk
      simp only at this
      omega
    · exact h.apart v hv d hd
theorem Fr.store (h : Fr w0 w L D S) (hS : SetV L b t cs r L') (hc : cs.all noU64 = true) (hu : Upd b w w') (hV : Vr w'.heap b t r) : Fr w0 w' L' D S := by
  have hb := h.lo hS.inV
  have hap := fun d hd => h.apart _ hS.inV.mem d hd
  refine ⟨h.exs.then hu.exs (fun i hi e => by subst e; rcases hb with hb | hb; omega; exact hb), ?_, ?_, fun d hd => d.st _ _ (DE.upd hu (h.var hS.inV) hc (hap d hd)) (h.data d hd), ?_⟩
  · intro v hv
    obtain ⟨pre, post, e1, e2⟩ := hS.split
    subst e1 e2
    have hdist := h.dist
    rw [List.pairwise_append] at hdist
    have hq : ∀ v, v ∈ pre ∨ v ∈ post → (w0.heap.size ≤ v.b ∨ S v.b) ∧ Vr w'.heap v.b v.t v.cs := by
      intro v hv
      have hm : v ∈ pre ++ (⟨b, t, cs⟩ : VB) :: post := by
        rcases hv with hv | hv
        · exact List.mem_append_left _ hv
        · exact List.mem_append_right _ (List.mem_cons_of_mem _ hv)
      have hne : v.b ≠ b := by
        rcases hv with hv | hv
        · exact hdist.2.2 v hv _ (List.mem_cons_self ..)
        · exact fun e => (List.pairwise_cons.1 hdist.2.1).1 v hv e.symm
      exact ⟨(h.vars v hm).1, (h.vars v hm).2.upd hu hne⟩
    rcases List.mem_append.1 hv with hv | hv
    · exact hq v (.inl hv)
    · rcases List.mem_cons.1 hv with rfl | hv
      · exact ⟨hb, hV⟩
      · exact hq v (.inr hv)
  · obtain ⟨pre, post, e1, e2⟩ := hS.split
    subst e1 e2
    have hdist := h.dist
    rw [List.pairwise_append, List.pairwise_cons] at hdist ⊢
    refine ⟨hdist.1, ⟨fun v hv => hdist.2.1.1 v hv, hdist.2.1.2⟩, fun x hx y hy => ?_⟩
    rcases List.mem_cons.1 hy with rfl | hy
    · exact hdist.2.2 x hx ⟨b, t, cs⟩ (List.mem_cons_self ..)
    · exact hdist.2.2 x hx y (List.mem_cons_of_mem _ hy)
  · intro v hv d hd
    obtain ⟨pre, post, e1, e2⟩ := hS.split
    subst e1 e2
    rcases List.mem_append.1 hv with hv | hv
    · exact h.apart v (List.mem_append_left _ hv) d hd
    · rcases List.mem_cons.1 hv with rfl | hv
      · exact hap d hd
      · exact h.apart v (List.mem_append_right _ (List.mem_cons_of_mem _ hv)) d hd
theorem Fr.weak (h : Fr w0 w L' D' S) (hL : L.Sublist L') (hD : ∀ d ∈ D, d ∈ D') : Fr w0 w L D S := ⟨h.exs, fun v hv => h.vars v (hL.subset hv), h.dist.sublist hL, fun d hd => h.data d (hD d hd), fun v hv d hd => h.apart v (hL.subset hv) d (hD d hd)⟩
theorem allH {x : DP} {D D' : List DP} (hx : x ∈ D') (h : ∀ d ∈ D, d ∈ D') : ∀ d ∈ x :: D, d ∈ D' := fun d hd => by
  rcases List.mem_cons.1 hd with rfl | hd
  · exact hx
  · exact h d hd
theorem allN {D' : List DP} : ∀ d ∈ ([] : List DP), d ∈ D' := fun _ h => (by cases h)
theorem allR {D : List DP} : ∀ d ∈ D, d ∈ D := fun _ h => h
theorem allT {x : DP} {D D' : List DP} (h : ∀ d ∈ D, d ∈ D') : ∀ d ∈ D, d ∈ x :: D' := fun d hd => List.mem_cons_of_mem _ (h d hd)
theorem Fr.get (h : Fr w0 w L D S) {d : DP} (hd : d ∈ D) : d.p w.heap := h.data d hd
end

/-! ### Steps -/
section
variable {P : Program} {N : Fm} {Q : Exit → Act → World → Prop} {σ : Store} {S : Nat → Prop} {w0 w : World} {L : List VB} {D : List DP} {ops : Array Oper} {d : Nat} {t : TypeId} {pos : String} {af : Array Edge} {rest : List Oper} {l : List Oper}
theorem T.regionFr (hF : Fr w0 w L D S) (id : Nat) (f : Nat) (t : Rt) (hm : P.follows .mixedOrders = true) (hB : treeB l.toArray f t = true)
    (h : ∀ w1 : World, Fr w0 w1 L D S → TF P N l Q (fun w' => Fr w0 w' L D S) f t σ w1) : T P N (.region id l.toArray true) Q σ w :=
  T.regionF _ f t hm hB (hF.exts (ext_drewN w 1)) (h _ (hF.exts (ext_drewN w 1)))
theorem TL.nilFr (hF : Fr w0 w L D S) (h : ∀ w1 : World, Fr w0 w1 L D S → G N .normal Q σ w1) : TL P N .quiet ops Q [] σ w := TL.nilQ fun n => h _ (hF.exts (ext_drewN w n))
theorem TL.boxAFr (hF : Fr w0 w L D S) {x : Operand} {ty : TypeId} {cs : List Value} (hx : look σ x = some (.agg cs.toArray)) (hd : Nat.blt d N.n = true)
    (K : ∀ w' b, Fr w0 w' (⟨b, ty, cs⟩ :: L) D S → TL P N .seq ops Q rest ((d, .pointer (some ⟨b, 0, none⟩)) :: σ) w') :
    TL P N .seq ops Q (⟨some d, .box ty x, t, pos, af, none⟩ :: rest) σ w :=
  TL.boxA hx hd fun w' b hb hV hE _ => K w' b (hF.new hb hV hE)
theorem TL.allocFr (hF : Fr w0 w L D S) {ty : TypeId} {z : Value} {sz b1 : Nat} [hS : USize P ty z sz b1] {cs : List Value} (hz : z.cells.toList = cs) (hd : Nat.blt d N.n = true)
    (K : ∀ w' b, Fr w0 w' (⟨b, ty, cs⟩ :: L) D S → TL P N .seq ops Q rest ((d, .pointer (some ⟨b, 0, none⟩)) :: σ) w') :
    TL P N .seq ops Q (⟨some d, .alloc ty, t, pos, af, none⟩ :: rest) σ w :=
  TL.alloc hd fun w' b hb hV hE _ => K w' b (hF.new hb (by rw [← hz]; exact hV) hE)
theorem TL.storeAFr (hF : Fr w0 w L D S) {x y : Operand} {ty e : TypeId} {z : Value} {sz b1 : Nat} [hS : USize P ty z sz b1] {b o : Nat} {cs r vs : List Value} {L' : List VB} (hx : look σ x = some (.pointer (some ⟨b, o, none⟩))) (hy : look σ y = some (.agg vs.toArray))
    (hsz : Nat.beq vs.length sz = true) (h1 : vs.all (·.oneCell') = true) (h : SetV L b e cs r L' ∧ putO cs o vs = some r) (hc : cs.all noU64 = true)
    (K : ∀ w', Fr w0 w' L' D S → TL P N .seq ops Q rest σ w') : TL P N .seq ops Q (⟨none, .store ty x y, t, pos, af, none⟩ :: rest) σ w :=
  TL.storeVA hx hy hsz h1 (hF.var h.1.inV) h.2 fun w' h1 h2 => K w' (hF.store h.1 hc h2 h1)
theorem TL.storeFr (hF : Fr w0 w L D S) {x y : Operand} {ty e : TypeId} {z : Value} {b1 : Nat} [hS : USize P ty z 1 b1] {b o : Nat} {cs r : List Value} {v : Value} {L' : List VB} (hx : look σ x = some (.pointer (some ⟨b, o, none⟩))) (hy : look σ y = some v) (hvs : v.cells.toList = [v]) (h1 : v.oneCell' = true) (h : SetV L b e cs r L' ∧ putO cs o [v] = some r) (hc : cs.all noU64 = true)
    (K : ∀ w', Fr w0 w' L' D S → TL P N .seq ops Q rest σ w') : TL P N .seq ops Q (⟨none, .store ty x y, t, pos, af, none⟩ :: rest) σ w :=
  TL.storeV hx hy hvs h1 (hF.var h.1.inV) h.2 fun w' h1 h2 => K w' (hF.store h.1 hc h2 h1)
end
section
variable {P : Program} {σ : Store} {d : Option Tmp} {t : TypeId} {pos : String} {af : Array Edge} {gd : Option (Nat × Bool)} {S : Nat → Prop} {w0 w : World} {L : List VB} {D : List DP}
theorem ev_loadFr (hF : Fr w0 w L D S) {x : Operand} {ty e : TypeId} [hO : UOne P ty] {b o : Nat} {cs : List Value} {v : Value} (hx : look σ x = some (.pointer (some ⟨b, o, none⟩))) (h : InV L b e cs ∧ nthV cs o = some v) : Ev P σ w.heap ⟨d, .load ty x, t, pos, af, gd⟩ v := ev_loadV hx (hF.var h.1) h.2
theorem ev_loadAFr (hF : Fr w0 w L D S) {x : Operand} {ty e : TypeId} [hA : UAgg P ty] {z : Value} {sz b1 : Nat} [hS : USize P ty z sz b1] {b o : Nat} {cs cs' : List Value} (hx : look σ x = some (.pointer (some ⟨b, o, none⟩))) (h : InV L b e cs ∧ subV cs o sz = some cs') :
    Ev P σ w.heap ⟨d, .load ty x, t, pos, af, gd⟩ (.agg cs'.toArray) := ev_loadVA hx (hF.var h.1) h.2
end
/-! ### Kinds of operations and judgements, for quick choices -/
section
variable {P : Program} {N : Fm} {q : Md} {Q : Exit → Act → World → Prop} {S : World → Prop} {σ : Store} {H : Array Obj} {w : World} {ops : Array Oper} {d : Option Tmp} {t : TypeId} {pos : String} {af : Array Edge} {gd : Option (Nat × Bool)} {rest l : List Oper} {v : Value} {f : Nat}
theorem Ev.isBin {op : BinOp} {tx ty : TypeId} {x y : Operand} (h : Ev P σ H ⟨d, .binOp op tx x y ty, t, pos, af, gd⟩ v) : Ev P σ H ⟨d, .binOp op tx x y ty, t, pos, af, gd⟩ v := h
theorem Ev.isLoad {ty : TypeId} {x : Operand} (h : Ev P σ H ⟨d, .load ty x, t, pos, af, gd⟩ v) : Ev P σ H ⟨d, .load ty x, t, pos, af, gd⟩ v := h
theorem Ev.isSlice {ty : TypeId} {x : Operand} {a b c : Option Operand} (h : Ev P σ H ⟨d, .slice ty x a b c, t, pos, af, gd⟩ v) : Ev P σ H ⟨d, .slice ty x a b c, t, pos, af, gd⟩ v := h
theorem TL.isG {op : Op} {g : Nat × Bool} (h : TL P N q ops Q (⟨d, op, t, pos, af, some g⟩ :: rest) σ w) : TL P N q ops Q (⟨d, op, t, pos, af, some g⟩ :: rest) σ w := h
theorem TL.isCall {f : FuncId} {xs : Array Operand} {tys : Array TypeId} (h : TL P N q ops Q (⟨d, .call { callee := .value (.func f), args := xs, argTypes := tys }, t, pos, af, none⟩ :: rest) σ w) : TL P N q ops Q (⟨d, .call { callee := .value (.func f), args := xs, argTypes := tys }, t, pos, af, none⟩ :: rest) σ w := h
theorem TL.isOp {o : Oper} (h : TL P N q ops Q (o :: rest) σ w) : TL P N q ops Q (o :: rest) σ w := h
theorem TL.isBin {op : BinOp} {tx ty : TypeId} {x y : Operand} (h : TL P N q ops Q (⟨d, .binOp op tx x y ty, t, pos, af, gd⟩ :: rest) σ w) : TL P N q ops Q (⟨d, .binOp op tx x y ty, t, pos, af, gd⟩ :: rest) σ w := h
theorem T.is {c : Code} (h : T P N c Q σ w) : T P N c Q σ w := h
theorem G.is {e : Exit} (h : G N e Q σ w) : G N e Q σ w := h
/-- a step of a drawn region by a tree, its operation at hand -/
def TFo (P : Program) (N : Fm) (l : List Oper) (Q : Exit → Act → World → Prop) (S : World → Prop) (f : Nat) (t : Rt) (o : Oper) (σ : Store) (w : World) : Prop :=
  ∀ a, Rep N σ a → ∃ v, YieldsIf P l.toArray S o v a ∧ wpTree P l.toArray (Only Q) S f t (a.put o.dst v) w
theorem TF.pick {i : Nat} {tr : Rt} {o : Oper} (hi : pick1 l i = some o) (h : TFo P N l Q S f tr o σ w) : TF P N l Q S f (.s i tr) σ w := by
  unfold TF
  intro a ha
  obtain ⟨v, h1, h2⟩ := h a ha
  exact ⟨o, v, pick_at hi, h1, h2⟩
theorem TFo.ev {tr : Rt} {op : Op} {ty : TypeId} {d : Nat} (h : ∀ w', S w' → Ev P σ w'.heap ⟨some d, op, ty, pos, af, none⟩ v) (hd : Nat.blt d N.n = true) (k : TF P N l Q S f tr ((d, v) :: σ) w) : TFo P N l Q S f tr ⟨some d, op, ty, pos, af, none⟩ σ w := by
  unfold TF at k
  exact fun a ha => ⟨v, .inl ⟨by simp [Region.wanted], fun w' hw' => by have := h w' hw'; unfold Ev at this; exact this _ w' ha.agree rfl⟩, k _ (ha.put hd v)⟩
theorem TFo.evg {tr : Rt} {op : Op} {ty : TypeId} {d : Nat} {j s : Nat} {want b : Bool} (hj : (pick1 l j).bind (·.dst) = some s) (hb : look1 σ s = some (.bool b)) (heq : (b == want) = true)
    (h : ∀ w', S w' → Ev P σ w'.heap ⟨some d, op, ty, pos, af, some (j, want)⟩ v) (hd : Nat.blt d N.n = true) (k : TF P N l Q S f tr ((d, v) :: σ) w) : TFo P N l Q S f tr ⟨some d, op, ty, pos, af, some (j, want)⟩ σ w := by
  unfold TF at k
  refine fun a ha => ⟨v, .inl ⟨?_, fun w' hw' => by have := h w' hw'; unfold Ev at this; exact this _ w' ha.agree rfl⟩, k _ (ha.put hd v)⟩
  have hj' : (l.toArray[j]?).bind (·.dst) = some s := by rw [List.getElem?_toArray, ← pick1_eq]; exact hj
  simp only [Region.wanted, yielded_of ha hj' hb]
  cases b <;> cases want <;> simp_all
theorem TFo.skip {tr : Rt} {op : Op} {ty : TypeId} {d : Nat} {j s : Nat} {want b : Bool} (hj : (pick1 l j).bind (·.dst) = some s) (hb : look1 σ s = some (.bool b)) (heq : (b == want) = false)
    (hd : Nat.blt d N.n = true) (k : TF P N l Q S f tr ((d, undef) :: σ) w) : TFo P N l Q S f tr ⟨some d, op, ty, pos, af, some (j, want)⟩ σ w := by
  unfold TF at k
  refine fun a ha => ⟨undef, .inr ⟨?_, rfl⟩, k _ (ha.put hd undef)⟩
  have hj' : (l.toArray[j]?).bind (·.dst) = some s := by rw [List.getElem?_toArray, ← pick1_eq]; exact hj
  simp only [Region.wanted, yielded_of ha hj' hb]
  cases b <;> cases want <;> simp_all
theorem TFo.is {tr : Rt} {o : Oper} (h : TFo P N l Q S f tr o σ w) : TFo P N l Q S f tr o σ w := h
theorem TF.is {tr : Rt} (h : TF P N l Q S f tr σ w) : TF P N l Q S f tr σ w := h
theorem ev_cmpG {op : BinOp} {tx ty : TypeId} {x y : Operand} {k : IntKind} {m n : Int} {p : Prop} [Decidable p] (hx : look σ x = some (.int k m)) (hy : look σ y = some (.int k n)) (hp : cmpP op m n = some p) : Ev P σ H ⟨d, .binOp op tx x y ty, t, pos, af, gd⟩ (.bool (decide p)) := by
  unfold cmpP at hp
  split at hp <;> first | cases hp; done | skip
  all_goals (cases hp)
  · exact ev_lss hx hy (by congr)
  · exact ev_leq hx hy (by congr)
  · exact ev_gtr hx hy (by congr)
  · exact ev_geq hx hy (by congr)
  · exact ev_eql hx hy (by congr)
  · exact ev_neq hx hy (by by_cases h : m = n <;> simp [h])
/-- a comparison in a drawn region: both ways -/
theorem TFo.cmpG {tr : Rt} {op : BinOp} {tx ty ty' : TypeId} {x y : Operand} {k : IntKind} {m n : Int} {p : Prop} {d : Nat} (hx : look σ x = some (.int k m)) (hy : look σ y = some (.int k n)) (hp : cmpP op m n = some p) (hd : Nat.blt d N.n = true)
    (k1 : p → TF P N l Q S f tr ((d, .bool true) :: σ) w) (k0 : ¬ p → TF P N l Q S f tr ((d, .bool false) :: σ) w) : TFo P N l Q S f tr ⟨some d, .binOp op tx x y ty, ty', pos, af, none⟩ σ w := by
  have hdec := Classical.propDecidable p
  have he := fun H => ev_cmpG (P := P) (H := H) (d := some d) (t := ty') (pos := pos) (af := af) (gd := none) (tx := tx) (ty := ty) hx hy hp
  by_cases h : p
  · exact TFo.ev (fun w' _ => by have := he w'.heap; rw [decide_eq_true h] at this; exact this) hd (k1 h)
  · exact TFo.ev (fun w' _ => by have := he w'.heap; rw [decide_eq_false h] at this; exact this) hd (k0 h)
end
attribute [irreducible] TFo

end Go.Eng

namespace Go.Proofs.Ytdhmhjbmkimplaa
open Go Go.Eng Go.Proofs Go.NatM Go.RowKit

theorem Sl.deS {F : Nat → Prop} {H H' : Array Obj} {n c : Nat} {A : Option Addr} {l : List Nat} (hd : DE F H H') (h : Sl u64v H H.size A n c l) : Sl u64v H' H'.size A n c l := (Sl.de hd h).size
theorem Sm.deS {F : Nat → Prop} {H H' : Array Obj} {n c : Nat} {A : Option Addr} {l : List IV} (hF : ∀ b, fpA A n b → F b) (hd : DE F H H') (h : Sm 2 ivc H H.size A n c l) : Sm 2 ivc H' H'.size A n c l := (Sm.de hF hd h).size
theorem GI.de {F : Nat → Prop} {H H' : Array Obj} {x : IV} (hd : DE F H H') (h : GI H x) : GI H' x := ⟨Sl.deS hd h.s, h.u⟩
theorem LI.de {F : Nat → Prop} {H H' : Array Obj} {x : IV} {z : Int} (hd : DE F H H') (h : LI H z x) : LI H' z x := ⟨h.g.de hd, h.d, h.e⟩
theorem GM.de {H H' : Array Obj} {x : MV} {r c K : Nat} (hd : DE (fpA x.A x.n) H H') (h : GM H x r c K) : GM H' x r c K := ⟨h.sh, Sm.deS (fun _ h => h) hd h.s, fun y hy => ⟨(h.g y hy).1.de hd, (h.g y hy).2⟩⟩
theorem LM.de {H H' : Array Obj} {x : MV} {r c K : Nat} {F : Nat → Nat → Int} (hd : DE (fpA x.A x.n) H H') (h : LM H x r c F K) : LM H' x r c F K := ⟨h.sh, Sm.deS (fun _ h => h) hd h.s, fun i j hi hj => ⟨(h.g i j hi hj).1.de hd, (h.g i j hi hj).2⟩⟩
theorem RM.de {H H' : Array Obj} {x : MV} {K : Nat} (hd : DE (fpA x.A x.n) H H') (h : RM H x K) : RM H' x K := ⟨Sm.deS (fun _ h => h) hd h.s, fun y hy => ⟨(h.g y hy).1.de hd, (h.g y hy).2⟩⟩
def dpSl (A : Option Addr) (n c : Nat) (l : List Nat) : DP := ⟨fun H => Sl u64v H H.size A n c l, fun _ => False, fun _ _ _ h => h.elim, fun _ _ hd h => Sl.deS hd h⟩
def dpSm (A : Option Addr) (n c : Nat) (l : List IV) : DP := ⟨fun H => Sm 2 ivc H H.size A n c l, fpA A n, fun _ _ h hk => h.fp_lt hk, fun _ _ hd h => Sm.deS (fun _ h => h) hd h⟩
def dpGI (x : IV) : DP := ⟨fun H => GI H x, fun _ => False, fun _ _ _ h => h.elim, fun _ _ hd h => h.de hd⟩
def dpLI (z : Int) (x : IV) : DP := ⟨fun H => LI H z x, fun _ => False, fun _ _ _ h => h.elim, fun _ _ hd h => h.de hd⟩
def dpGM (x : MV) (r c K : Nat) : DP := ⟨fun H => GM H x r c K, fpA x.A x.n, fun _ _ h hk => h.s.fp_lt hk, fun _ _ hd h => h.de hd⟩
def dpLM (x : MV) (r c : Nat) (F : Nat → Nat → Int) (K : Nat) : DP := ⟨fun H => LM H x r c F K, fpA x.A x.n, fun _ _ h hk => h.s.fp_lt hk, fun _ _ hd h => h.de hd⟩
section
variable {S : Nat → Prop} {w0 w w' : World} {L : List VB} {D : List DP}
theorem mf_fp {x : MV} (h : MF w x) (k : Nat) (hk : fpA x.A x.n k) : w.heap.size ≤ k := by
  obtain ⟨h0, o, e⟩ := hk
  rcases h with h | ⟨b, e', hb⟩
  · omega
  · rw [e] at e'; cases e'; exact hb
theorem Fr.addSl (h : Fr w0 w L D S) {A : Option Addr} {n c : Nat} {l : List Nat} (k : Sl u64v w.heap w.heap.size A n c l) : Fr w0 w L (dpSl A n c l :: D) S := h.add _ k fun _ _ h => h
theorem Fr.addGI (h : Fr w0 w L D S) {x : IV} (k : GI w.heap x) : Fr w0 w L (dpGI x :: D) S := h.add _ k fun _ _ h => h
theorem Fr.addLI (h : Fr w0 w L D S) {x : IV} {z : Int} (k : LI w.heap z x) : Fr w0 w L (dpLI z x :: D) S := h.add _ k fun _ _ h => h
theorem Fr.addLM (h : Fr w0 w L D S) (hE : Ext w w') {x : MV} {r c K : Nat} {F : Nat → Nat → Int} (k : LM w'.heap x r c F K) (hf : MF w x) : Fr w0 w' L (dpLM x r c F K :: D) S := h.addNew hE _ k (mf_fp hf)
theorem Fr.sl (h : Fr w0 w L D S) {A : Option Addr} {n c : Nat} {l : List Nat} (hm : dpSl A n c l ∈ D) : Sl u64v w.heap w.heap.size A n c l := h.data _ hm
theorem Fr.sm (h : Fr w0 w L D S) {A : Option Addr} {n c : Nat} {l : List IV} (hm : dpSm A n c l ∈ D) : Sm 2 ivc w.heap w.heap.size A n c l := h.data _ hm
theorem Fr.gi (h : Fr w0 w L D S) {x : IV} (hm : dpGI x ∈ D) : GI w.heap x := h.data _ hm
theorem Fr.li (h : Fr w0 w L D S) {x : IV} {z : Int} (hm : dpLI z x ∈ D) : LI w.heap z x := h.data _ hm
theorem Fr.gm (h : Fr w0 w L D S) {x : MV} {r c K : Nat} (hm : dpGM x r c K ∈ D) : GM w.heap x r c K := h.data _ hm
theorem Fr.lm (h : Fr w0 w L D S) {x : MV} {r c K : Nat} {F : Nat → Nat → Int} (hm : dpLM x r c F K ∈ D) : LM w.heap x r c F K := h.data _ hm
end
attribute [irreducible] dpSl dpSm dpGI dpLI dpGM dpLM

end Go.Proofs.Ytdhmhjbmkimplaa

namespace Go.Eng
open Go Go.RowKit

theorem made_flat {α : Type} {f : α → List Value} {u : α} {z : List Value} {c k : Nat} (hk : 0 < k) (hz : f u = z) (hl : z.length = k) : (madeCells z.toArray (c * k)).toList = (List.replicate c u).flatMap f := by
  have hw : ∀ x ∈ List.replicate c u, (f x).length = k := fun x hx => by rw [(List.mem_replicate.1 hx).2, hz, hl]
  apply List.ext_getElem?
  intro i
  rcases Nat.lt_or_ge i (c * k) with hi | hi
  · have h1 : i / k < c := Nat.div_lt_of_lt_mul (by rw [Nat.mul_comm]; exact hi)
    have h2 := flatMap_get hw (i / k) (i % k) u (by simp [h1]) (Nat.mod_lt _ hk)
    rw [Nat.div_add_mod'] at h2
    rw [h2, hz]
    have h3 : i % k < z.length := by rw [hl]; exact Nat.mod_lt _ hk
    simp [madeCells, hi, hl, List.getElem?_eq_getElem h3]
  · rw [List.getElem?_eq_none (by simp [madeCells]; exact hi), List.getElem?_eq_none (by rw [flatMap_len hw]; simp; exact hi)]
theorem flatMap_set {α : Type} {f : α → List Value} {k : Nat} (hw : ∀ x, (f x).length = k) (u : α) : ∀ (l : List α) (i : Nat), i < l.length → (l.flatMap f).take (i * k) ++ f u ++ (l.flatMap f).drop (i * k + k) = (l.set i u).flatMap f
  | [], i, h => by simp at h
  | y :: l, 0, h => by
    simp only [Nat.zero_mul, List.take_zero, List.nil_append, Nat.zero_add, List.set_cons_zero, List.flatMap_cons]
    rw [List.drop_append, List.drop_of_length_le (by rw [hw]; exact Nat.le_refl _), hw]; simp
  | y :: l, i + 1, h => by
    have ih := flatMap_set hw u l i (by simpa using h)
    simp only [List.set_cons_succ, List.flatMap_cons]
    rw [← ih]
    have e1 : (i + 1) * k = (f y).length + i * k := by rw [hw, Nat.add_mul, Nat.one_mul, Nat.add_comm]
    have e2 : (i + 1) * k + k = (f y).length + (i * k + k) := by rw [e1]; omega
    rw [e2, e1, List.take_length_add_append, List.drop_length_add_append]
    simp
section
variable {P : Program} {N : Fm} {Q : Exit → Act → World → Prop} {σ : Store} {S : Nat → Prop} {w0 w : World} {L : List VB} {D : List DP} {ops : Array Oper} {d : Nat} {t : TypeId} {pos : String} {af : Array Edge} {rest : List Oper}
/-- a new block of structs, known whole -/
theorem TL.makeFr (hF : Fr w0 w L D S) {α : Type} (f : α → List Value) (u : α) {x y : Operand} {ty e : TypeId} [hT : USlice P ty e] {z : List Value} {sz b1 : Nat} [hS : USize P e (.agg z.toArray) sz b1] {k k' : IntKind} {z1 z2 : Int} {n c : Nat} [e1 : IsN z1 n] [e2 : IsN z2 c]
    (hx : look σ x = some (.int k z1)) (hy : look σ y = some (.int k' z2)) (hd : Nat.blt d N.n = true) (hn : n ≤ c) (hc : b1 * c ≤ 281474976710656 ∧ c ≤ 9223372036854775807) (hu : f u = z) (hzl : Nat.beq z.length sz = true) (hz0 : Nat.blt 0 sz = true)
    (K : ∀ w' b, Fr w0 w' (⟨b, e, (List.replicate c u).flatMap f⟩ :: L) D S → TL P N .seq ops Q rest ((d, .slice (some ⟨b, 0, none⟩) n c) :: σ) w') :
    TL P N .seq ops Q (⟨some d, .makeSlice ty x y, t, pos, af, none⟩ :: rest) σ w := by
  obtain rfl := e1.out
  obtain rfl := e2.out
  obtain ⟨i, hi, hz0', hsz, hby⟩ := hS.info
  have hb : (i.bytes : Int) * (c : Int) ≤ 281474976710656 := by
    have h : ((i.bytes * c : Nat) : Int) ≤ 281474976710656 := by rw [hby]; omega
    rwa [Int.natCast_mul] at h
  have hr := fun (w : World) => run_make (P := P) w ty e i (.agg z.toArray) hT.out hi hz0' k k' (n : Int) (c : Int) (by omega) (by omega) hb (by omega)
  simp only [Int.toNat_natCast, hsz] at hr
  have hzl' := Nat.eq_of_beq_eq_true hzl
  have hsz0 : 0 < sz := by simpa [Nat.blt_eq] using hz0
  have hflat := made_flat (c := c) hsz0 hu hzl'
  refine TL.op (w' := w.alloc (.cells (madeCells z.toArray (c * sz)) e)) (fun ρ hρ => ?_) hd (K _ _ (hF.new rfl (t := e) ?_ (ext_alloc _ _)))
  · simp [execOp, hρ x _ hx, hρ y _ hy]
    have := hr w
    simp only [Value.cells] at this
    simp [this]
  · rw [← hflat]
    unfold Vr
    rw [heap_alloc]
/-- a struct stored into an element of a block known whole -/
theorem TL.storeAtFr (hF : Fr w0 w L D S) {α : Type} {f : α → List Value} {x y : Operand} {ty e : TypeId} {z : Value} {k b1 : Nat} [hS : USize P ty z k b1] {b i : Nat} {l : List α} (u : α) {vs : List Value} {L' : List VB}
    (hx : look σ x = some (.pointer (elemA (some ⟨b, 0, none⟩) (i * k)))) (hy : look σ y = some (.agg vs.toArray)) (hvs : f u = vs) (h1 : vs.all (·.oneCell') = true) (hw : ∀ x, (f x).length = k) (hi : i < l.length) (hn : (l.flatMap f).all noU64 = true)
    (hL : SetV L b e (l.flatMap f) ((l.set i u).flatMap f) L')
    (K : ∀ w', Fr w0 w' L' D S → TL P N .seq ops Q rest σ w') : TL P N .seq ops Q (⟨none, .store ty x y, t, pos, af, none⟩ :: rest) σ w := by
  subst hvs
  have hV := hF.var hL.inV
  have hlen : (l.flatMap f).length = l.length * k := flatMap_len fun x _ => hw x
  have hik : i * k + k ≤ l.length * k := by
    have h1 : (i + 1) * k ≤ l.length * k := Nat.mul_le_mul_right k hi
    rw [Nat.add_mul, Nat.one_mul] at h1
    exact h1
  obtain ⟨ii, hii, _, hsz', _⟩ := hS.info
  have hst := run_storeCells_at P b (0 + i * k) e (f u) 0 (l.flatMap f).toArray w hV (by simp only [List.size_toArray]; rw [hlen, hw]; omega) (fun v hv => List.all_eq_true.1 h1 v hv)
  simp only [Nat.add_zero, Nat.zero_add, hw] at hst
  rw [flatMap_set hw u l i hi] at hst
  refine TL.op0 (w' := w.setRow b ((l.set i u).flatMap f).toArray) (fun ρ hρ => ?_) (K _ (hF.store hL hn (upd_setRow _ _ _) ?_))
  · have e0 : look σ x = some (.pointer (some ⟨b, i * k, none⟩)) := by rw [hx]; simp [elemA, add_mk]
    simp [execOp, hρ x _ e0, hρ y _ hy, Instr.storeAt, Instr.sureAddr, storeVar, sizeOf, typeInfo, hii, hsz', Value.cells, hw]
    rw [hst]
    simp
  · unfold Vr at hV ⊢
    rw [setRow_heap w b _ _ e _ hV]
end
end Go.Eng
