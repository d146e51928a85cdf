/- The law of stage 18: sound, copies, words, a fixed matrix. The law of stage 18: fixed matrices; when matrices are the same. The law of stage 18: the unit matrix, zeros, rows of a matrix. The law of stage 18: is an answered matrix in Hermite form? The law of stage 18 wakes: the Hermite form of a fixed matrix. WholeHermite: hnf.Full of an unsound matrix; the products. WholeHermite: U times A is H, U and W are inverses of one another, H is in Hermite form. Opening matrices handed in, with the range of their numbers and the length of their lists. -/
import Derived.Test.YthlbihbchobllaaGreatPh12
import Derived.Test.YthlbihbchobllaaGreatPh4
import Derived.Test.YthlbihbchobllaaGreatPh8
import Derived.Test.YthlbihbchobllaaGreatPh9
import Derived.Test.YthlbihbchobllaaGreatPh5
import Derived.Test.YthlbihbchobllaaGreatPh6
set_option linter.unusedVariables false
set_option linter.unusedSimpArgs false
namespace Go.Proofs.YthlbihbchobllaaGreat
open Go Go.Eng Go.Proofs Go.NatM Go.RowKit

def nought : IV := ⟨false, ⟨none, 0, 0, []⟩⟩
theorem tsound_t (w : World) (x : MV) (r c : Nat) (hS : Sound x r c) : Cl Tryz.prog 7 #[.agg (mvc x).toArray] w (YesM w) := by
  obtain ⟨xr, xc, A, n, k, l⟩ := x
  obtain ⟨h1, h2, h3, h4, h5⟩ := hS
  dsimp only at h1 h2 h5
  subst h1 h2 h5
  have hm := mul64 h3 h4
  refine enter Tryz.func7 rfl rfl rfl ?_
  repeat' (first | refine TL.ev (ev_simple rfl) rfl ?_ | refine TL.grun rfl rfl rfl ?_ | refine TL.ev (ev_len rfl) rfl ?_ | (refine TL.cmpG rfl rfl rfl rfl (fun hc => ?_) (fun hc => ?_) <;> try first | (exfalso; omega) | exact absurd rfl hc) | refine TL.ev (ev_arN rfl rfl rfl (by omega)) rfl ?_ | (refine TL.boxA (cs := [.int .i64 (r : Int), .int .i64 (c : Int), .slice A (r * c) k]) rfl rfl (fun wb bb ebb hVb hEb hzb => ?_)) | (refine TL.ev (ev_fieldAddr rfl) rfl ?_) | (refine TL.ev (ev_loadVX rfl (by refine ⟨?_, ?_⟩; (focus (repeat (first | assumption | (apply Vr.ext; assumption) | (apply Vr.updX; assumption; rotate_left; omega)))); rfl)) rfl ?_) | refine T.seq ?_ | refine T.region ?_ | refine TL.nil ?_ | refine T.ret ?_ | refine G.next ?_)
  exact G.ret1 rfl rfl ⟨rfl, hEb⟩
theorem tsound_f (w : World) (x : MV) (h : ∀ r c, ¬ Sound x r c) : Cl Tryz.prog 7 #[.agg (mvc x).toArray] w (NoM w) := by
  obtain ⟨xr, xc, A, n, k, l⟩ := x
  by_cases hin : (0 ≤ xr ∧ xr ≤ 64) ∧ (0 ≤ xc ∧ xc ≤ 64)
  · obtain ⟨r, rfl⟩ := Int.eq_ofNat_of_zero_le hin.1.1
    obtain ⟨c, rfl⟩ := Int.eq_ofNat_of_zero_le hin.2.1
    have hr : r ≤ 64 := by omega
    have hc : c ≤ 64 := by omega
    have hm := mul64 hr hc
    have hn : n ≠ r * c := fun e => h r c ⟨rfl, rfl, hr, hc, e⟩
    generalize hp : r * c = p at *
    refine enter Tryz.func7 rfl rfl rfl ?_
    repeat' (first | refine TL.ev (ev_simple rfl) rfl ?_ | refine TL.grun rfl rfl rfl ?_ | refine TL.ev (ev_len rfl) rfl ?_ | (refine TL.cmpG rfl rfl rfl rfl (fun hc => ?_) (fun hc => ?_) <;> try first | (exfalso; omega) | exact absurd rfl hc) | refine TL.ev (ev_arN rfl rfl rfl (by omega)) rfl ?_ | (refine TL.boxA (cs := [.int .i64 (r : Int), .int .i64 (c : Int), .slice A n k]) rfl rfl (fun wb bb ebb hVb hEb hzb => ?_)) | (refine TL.ev (ev_fieldAddr rfl) rfl ?_) | (refine TL.ev (ev_loadVX rfl (by refine ⟨?_, ?_⟩; (focus (repeat (first | assumption | (apply Vr.ext; assumption) | (apply Vr.updX; assumption; rotate_left; omega)))); rfl)) rfl ?_) | refine T.seq ?_ | refine T.region ?_ | refine TL.nil ?_ | refine T.ret ?_ | refine G.next ?_)
    all_goals exact G.ret1 rfl rfl ⟨rfl, hEb⟩
  · refine enter Tryz.func7 rfl rfl rfl ?_
    repeat' (first | refine TL.ev (ev_simple rfl) rfl ?_ | refine TL.grun rfl rfl rfl ?_ | refine TL.gskip rfl rfl rfl rfl ?_ | (refine TL.cmpG rfl rfl rfl rfl (fun hc => ?_) (fun hc => ?_) <;> try first | (exfalso; omega) | exact absurd rfl hc) | (refine TL.boxA (cs := [.int .i64 xr, .int .i64 xc, .slice A n k]) rfl rfl (fun wb bb ebb hVb hEb hzb => ?_)) | (refine TL.ev (ev_fieldAddr rfl) rfl ?_) | (refine TL.ev (ev_loadVX rfl (by refine ⟨?_, ?_⟩; (focus (repeat (first | assumption | (apply Vr.ext; assumption) | (apply Vr.updX; assumption; rotate_left; omega)))); rfl)) rfl ?_) | refine T.seq ?_ | refine T.region ?_ | refine TL.nil ?_ | refine T.ret ?_ | refine G.next ?_)
    all_goals exact G.ret1 rfl rfl ⟨rfl, hEb⟩
/-- the same integer in the same form -/
def SameI (x y : IV) : Prop := y.neg = x.neg ∧ y.m.l = x.m.l ∧ y.m.n = x.m.n
theorem same_ival {x y : IV} (h : SameI x y) : ival y = ival x := by unfold ival; rw [h.1, h.2.1]
def RetCp (w : World) (x : IV) (e : Ending) (w' : World) : Prop := ∃ y : IV, e = .returned (.agg (ivc y).toArray) ∧ SameI x y ∧ GI w'.heap y ∧ Ext w w'
theorem copy_ok (w : World) (x : IV) (g : GI w.heap x) (hn : x.m.n ≤ 1099511627776) : Cl Tryz.prog 47 #[.agg (ivc x).toArray] w (RetCp w x) := by
  have hs := g.s
  have hu := g.u
  obtain ⟨neg, ⟨A, n, c, l⟩⟩ := x
  dsimp only at hs hu hn
  refine enter Tryz.func47 rfl rfl rfl ?_
  have hF := Fr.refl w
  repeat' (first | (refine TL.isOp ?_; first | (refine TL.storeAFr hF rfl rfl rfl rfl (by refine ⟨?_, ?_⟩; (focus (repeat (first | apply SetV.head | apply SetV.tail))); rfl) rfl ?_; clear hF; intro ws hF) | (refine TL.boxAFr hF (d := 1) (cs := [.bool neg, .slice A n c]) rfl rfl ?_; clear hF; intro w1 b1 hF) | (refine TL.allocFr hF (d := 2) rfl rfl ?_; clear hF; intro w2 b2 hF) | (refine TL.build0 u64v rfl rfl (fun wn bn ebn hBn hEn hzn => ?_); replace hF := hF.exts hEn; clear ebn hBn hEn hzn) | (refine TL.appendCp (f := u64v) (fun _ => rfl) rfl rfl rfl (hs.ext hF.ext) (by omega) (fun wp A2 c2 hE hS2 _ => ?_); replace hF := Fr.addSl (hF.exts hE) hS2; clear hE hS2)) | (refine TF.is ?_; first | refine TF.nil ?_ | refine TF.e rfl ?_ | (refine TF.pick rfl ?_; first | (apply TFo.ev; (case hd => rfl); (case h => (intro wh hF; first | (apply Ev.isLoad; first | exact ev_loadFr hF rfl (by refine ⟨?_, ?_⟩; (focus (repeat (first | exact InV.head | apply InV.tail))); rfl)) | exact ev_fieldAddr rfl | exact ev_buildX rfl rfl))))) | (refine T.is ?_; first | refine T.seq ?_ | refine T.region ?_ | refine T.ret ?_ | (refine T.regionFr hF 1 7 (.s 0 (.s 1 (.s 3 (.s 4 (.e 2 (.e 5 (.s 6 (.e 7 .nil)))))))) mixed (by kernel_rfl) ?_; clear hF; intro wr hF)) | (refine G.is ?_; first | refine G.next ?_ | refine G.only ?_ | refine G.treeEnd rfl ?_ | refine G.tree rfl (by first | exact hF | exact hF.weak (List.sublist_append_right _ _) (by repeat (first | exact allR | apply allT)) | exact hF.weak (by repeat (first | exact List.Sublist.refl _ | apply List.Sublist.cons)) (by repeat (first | exact allR | apply allT)) | exact hF.weak (by repeat (first | exact List.Sublist.refl _ | apply List.Sublist.cons)) (by repeat (first | exact allN | refine allH (by repeat (first | exact memH | apply memT)) ?_))) ?_) | refine TL.nil ?_)
  exact G.retC1 rfl rfl (held_agg (hF.var (by repeat (first | exact InV.head | apply InV.tail))) rfl) ⟨⟨neg, ⟨A2, n, c2, l⟩⟩, rfl, ⟨rfl, rfl, rfl⟩, ⟨Fr.sl hF (by repeat (first | exact memH | apply memT)), hu⟩, hF.ext⟩
/-- the first i of a list are copies of l -/
def LsG (i : Nat) (l' : List IV) (K : Nat) (H : Array Obj) : Prop := ∀ q, q < i → GI H (l'.getD q default) ∧ (l'.getD q default).m.n ≤ K
def dpLG (i : Nat) (l' : List IV) (K : Nat) : DP := ⟨LsG i l' K, fun _ => False, fun _ _ _ h => h.elim, fun _ _ hd h q hq => ⟨(h q hq).1.de hd, (h q hq).2⟩⟩
section
variable {S : Nat → Prop} {w0 w w' : World} {L : List VB} {D : List DP}
theorem Fr.addLG (h : Fr w0 w L D S) {i : Nat} {l : List IV} {K : Nat} (k : LsG i l K w.heap) : Fr w0 w L (dpLG i l K :: D) S := h.add _ k fun _ _ h => h
theorem Fr.lg (h : Fr w0 w L D S) {i : Nat} {l : List IV} {K : Nat} (hm : dpLG i l K ∈ D) : LsG i l K w.heap := h.data _ hm
end
attribute [irreducible] dpLG

theorem LsG.set {H : Array Obj} {l : List IV} {i K : Nat} {u : IV} (h : LsG i l K H) (hi : i < l.length) (hu : GI H u) (hn : u.m.n ≤ K) : LsG (i + 1) (l.set i u) K H := by
  intro q hq
  by_cases e : q = i
  · subst e
    have e1 : (l.set q u).getD q default = u := by simp [List.getD, hi]
    rw [e1]; exact ⟨hu, hn⟩
  · have e1 : (l.set i u).getD q default = l.getD q default := by simp [List.getD, List.getElem?_set_ne (fun h => e h.symm)]
    rw [e1]; exact h q (by omega)
def RetCr (w : World) (n : Nat) (l : List IV) (K : Nat) (e : Ending) (w' : World) : Prop := ∃ A k l', e = .returned (.slice A n k) ∧ Sm 2 ivc w'.heap w'.heap.size A n k l' ∧ (∀ q, q < n → (GI w'.heap (l'.getD q default) ∧ (l'.getD q default).m.n ≤ K) ∧ SameI (l.getD q default) (l'.getD q default)) ∧ Ext w w' ∧ LF w A n
set_option maxRecDepth 100000 in
set_option maxHeartbeats 1000000 in
theorem copyRow_ok (w : World) (A : Option Addr) (n k K : Nat) (l : List IV) (hs : Sm 2 ivc w.heap w.heap.size A n k l) (hn : n ≤ 1048576) (hg : ∀ y ∈ l, GI w.heap y ∧ y.m.n ≤ K) (hK : K ≤ 1099511627776) :
    Cl Tryz.prog 23 #[.slice A n k] w (RetCr w n l K) := by
  have hlen := hs.len
  refine enter Tryz.func23 rfl rfl rfl ?_
  have hF := Fr.refl w
  repeat' (first | (refine TL.isOp ?_; first | (apply TL.ev; (case hd => rfl); (case h => (first | exact ev_simple rfl | exact ev_len rfl))) | (refine TL.makeFr hF ivc nought (d := 7) rfl rfl rfl (Nat.le_refl _) (by omega) rfl rfl rfl ?_; clear hF; intro w7 b7 hF)) | (refine T.is ?_; first | refine T.seq ?_ | refine T.region ?_ | refine T.block ?_) | (refine G.is ?_; first | refine G.next ?_) | refine TL.nil ?_)
  refine T.loop (α := Nat × List IV) (fun x => [(0, .slice A n k), (3, .slice (some ⟨b7, 0, none⟩) n n), (4, .int .i64 (x.1 : Int))])
    (fun x w' => x.1 ≤ n ∧ x.2.length = n ∧ (∀ q, q < x.1 → SameI (l.getD q default) (x.2.getD q default)) ∧ Fr w w' [⟨b7, 43, x.2.flatMap ivc⟩] [dpLG x.1 x.2 K])
    (fun x => n - x.1) (0, List.replicate n nought) (by repeat (first | exact Sub.nil _ | refine Sub.cons rfl ?_ | refine Sub.cons' rfl (int_congr (by omega)) ?_)) ⟨Nat.zero_le _, List.length_replicate .., fun q hq => absurd hq (Nat.not_lt_zero _), Fr.addLG hF (fun q hq => absurd hq (Nat.not_lt_zero _))⟩ ?_
  clear hF
  rintro ⟨i, zl⟩ w2 ⟨hi, hzl, hsm, hF⟩
  dsimp only at hi hzl hsm hF ⊢
  rcases Nat.lt_or_ge i n with hin | hin
  · have hy : l[i]? = some (l.getD i default) := by simp [List.getD, show i < l.length by omega]
    obtain ⟨gy, gn⟩ := hg _ (List.mem_of_getElem? hy)
    obtain ⟨y, ey⟩ : ∃ y, l.getD i default = y := ⟨_, rfl⟩
    rw [ey] at hy gy gn
    repeat' (first | (refine TL.isOp ?_; first | (refine TL.isCall ?_; refine TL.call rfl rfl ?_; first | (refine (copy_ok _ y (gy.ext hF.ext) (by omega)).mono ?_; rintro _ wl ⟨u, rfl, hSu, hGu, hE⟩; replace hF := Fr.addGI (hF.exts hE) hGu; clear hE hGu; refine Back.mk ?_)) | (refine TL.isBin ?_; refine TL.cmpG rfl rfl rfl rfl (fun hc => ?_) (fun hc => ?_) <;> (try (first | (exfalso; omega) | exact absurd rfl hc))) | (apply TL.ev; (case hd => rfl); (case h => (first | exact ev_simple rfl | (apply Ev.isBin; first | exact ev_arN rfl rfl rfl (by omega)) | (apply Ev.isLoad; first | exact ev_loadM rfl (hs.ext hF.ext) hy) | exact ev_len rfl | exact ev_indexM rfl rfl hin (hs.ext hF.ext).some | exact ev_indexM rfl rfl hin (.inr rfl)))) | (refine TL.storeAtFr hF (f := ivc) u rfl rfl rfl rfl (fun _ => rfl) (by rw [hzl]; exact hin) (ivc_noV zl) (by repeat (first | apply SetV.head | apply SetV.tail)) ?_; clear hF; intro ws hF)) | (refine T.is ?_; first | refine T.seq ?_ | refine T.region ?_ | refine T.block ?_ | refine T.cond_t rfl ?_ | refine T.skip ?_) | (refine G.is ?_; first | refine G.next ?_ | refine G.blockN ?_) | refine TL.nil ?_)
    have hk := (Fr.lg hF (i := i) (l := zl) (by repeat (first | exact memH | apply memT))).set (by omega) (Fr.gi hF (x := u) (by repeat (first | exact memH | apply memT))) (by rw [hSu.2.2]; exact gn)
    refine G.again (i + 1, zl.set i u) (by repeat (first | exact Sub.nil _ | refine Sub.cons rfl ?_ | refine Sub.cons' rfl (int_congr (by omega)) ?_)) ⟨by dsimp only; omega, by rw [List.length_set]; exact hzl, fun q hq => ?_, Fr.addLG (hF.weak (List.Sublist.refl _) allN) hk⟩ (by dsimp only; omega)
    by_cases e : q = i
    · subst e
      have e1 : (zl.set q u).getD q default = u := by simp [List.getD, show q < zl.length by omega]
      rw [e1, ey]; exact hSu
    · have e1 : (zl.set i u).getD q default = zl.getD q default := by simp [List.getD, List.getElem?_set_ne (fun h => e h.symm)]
      dsimp only at hq ⊢
      rw [e1]; exact hsm q (by omega)
  · obtain rfl : i = n := by omega
    repeat' (first | (refine TL.isOp ?_; first | (refine TL.isBin ?_; refine TL.cmpG rfl rfl rfl rfl (fun hc => ?_) (fun hc => ?_) <;> (try (first | (exfalso; omega) | exact absurd rfl hc))) | (apply TL.ev; (case hd => rfl); (case h => (first | exact ev_simple rfl | exact ev_len rfl)))) | (refine T.is ?_; first | refine T.seq ?_ | refine T.region ?_ | refine T.cond_f rfl ?_ | refine T.exit ?_ | refine T.ret ?_) | (refine G.is ?_; first | refine G.next ?_ | refine G.blockE ?_ | refine G.thenE ?_) | refine TL.nil ?_)
    have hb := (hF.lo (b := b7) (by repeat (first | exact InV.head | apply InV.tail))).resolve_right id
    exact G.ret1 rfl rfl ⟨_, _, zl, rfl, vr_sm (zs := []) (by omega) (fun _ _ => rfl) (by rw [List.append_nil]; exact hF.var .head) hzl (Nat.le_refl _) (hF.var .head).lt, fun q hq => ⟨Fr.lg hF (i := i) (l := zl) (by repeat (first | exact memH | apply memT)) q hq, hsm q hq⟩, hF.ext, .inr ⟨b7, rfl, hb⟩⟩
/-- a copy of a matrix -/
structure CpM (x y : MV) : Prop where
  r : y.r = x.r
  c : y.c = x.c
  n : y.n = x.n
  e : ∀ q, q < x.n → ival (y.l.getD q default) = ival (x.l.getD q default)
theorem CpM.sound {x y : MV} (h : CpM x y) (r c : Nat) : Sound y r c ↔ Sound x r c := by
  constructor
  · rintro ⟨h1, h2, h3, h4, h5⟩; exact ⟨h.r ▸ h1, h.c ▸ h2, h3, h4, h.n ▸ h5⟩
  · rintro ⟨h1, h2, h3, h4, h5⟩; exact ⟨h.r.trans h1, h.c.trans h2, h3, h4, h.n.trans h5⟩
def dpRM (x : MV) (K : Nat) : DP := ⟨fun H => RM H x K, fpA x.A x.n, fun _ _ h hk => h.s.fp_lt hk, fun _ _ hd h => h.de hd⟩
section
variable {S : Nat → Prop} {w0 w w' : World} {L : List VB} {D : List DP}
theorem Fr.addRM (h : Fr w0 w L D S) (hE : Ext w w') {x : MV} {K : Nat} (k : RM w'.heap x K) (hf : MF w x) : Fr w0 w' L (dpRM x K :: D) S := h.addNew hE _ k (mf_fp hf)
theorem Fr.rm (h : Fr w0 w L D S) {x : MV} {K : Nat} (hm : dpRM x K ∈ D) : RM w.heap x K := h.data _ hm
end
attribute [irreducible] dpRM

def RetCm (w : World) (x : MV) (K : Nat) (e : Ending) (w' : World) : Prop := ∃ y : MV, e = .returned (.agg (mvc y).toArray) ∧ RM w'.heap y K ∧ CpM x y ∧ Ext w w' ∧ MF w y
theorem rm_of {H : Array Obj} {x : MV} {K : Nat} (hs : Sm 2 ivc H H.size x.A x.n x.k x.l) (h : ∀ q, q < x.n → GI H (x.l.getD q default) ∧ (x.l.getD q default).m.n ≤ K) : RM H x K :=
  ⟨hs, fun y hy => by
    obtain ⟨q, hq⟩ := List.getElem?_of_mem hy
    have hlt := (List.getElem?_eq_some_iff.1 hq).1
    have e : x.l.getD q default = y := by simp [List.getD, hq]
    rw [← e]
    exact h q (by have := hs.len; omega)⟩
theorem copyMat_ok (w : World) (x : MV) (K : Nat) (g : RM w.heap x K) (hn : x.n ≤ 1048576) (hK : K ≤ 1099511627776) : Cl Tryz.prog 6 #[.agg (mvc x).toArray] w (RetCm w x K) := by
  have hs := g.s
  have hg := g.g
  clear g
  obtain ⟨r, c, A, n, k, l⟩ := x
  dsimp only at hs hg hn
  refine enter Tryz.func6 rfl rfl rfl ?_
  have hF := Fr.refl w
  repeat' (first | (refine TL.isOp ?_; first | (refine TL.isCall ?_; refine TL.call rfl rfl ?_; first | (refine (copyRow_ok _ A n k K l (hs.ext hF.ext).size hn (fun y hy => ⟨(hg y hy).1.ext hF.ext, (hg y hy).2⟩) hK).mono ?_; rintro _ wl ⟨A2, k2, l2, rfl, hS2, hG2, hE, hf⟩; have hR : RM wl.heap ⟨r, c, A2, n, k2, l2⟩ K := rm_of hS2 fun q hq => (hG2 q hq).1; have hf2 : MF w ⟨r, c, A2, n, k2, l2⟩ := hf.imp id fun ⟨b, e, hb⟩ => ⟨b, e, Nat.le_trans hF.ext.size hb⟩; replace hF := Fr.addRM hF hE hR hf; clear hE hS2 hR hf; refine Back.mk ?_)) | (refine TL.storeAFr hF rfl rfl rfl rfl (by refine ⟨?_, ?_⟩; (focus (repeat (first | apply SetV.head | apply SetV.tail))); rfl) rfl ?_; clear hF; intro ws hF) | (refine TL.boxAFr hF (d := 1) (cs := [.int .i64 r, .int .i64 c, .slice A n k]) rfl rfl ?_; clear hF; intro w1 b1 hF) | (refine TL.allocFr hF (d := 2) rfl rfl ?_; clear hF; intro w2 b2 hF)) | (refine TF.is ?_; first | refine TF.nil ?_ | refine TF.e rfl ?_ | (refine TF.pick rfl ?_; first | (apply TFo.ev; (case hd => rfl); (case h => (intro wh hF; first | (apply Ev.isLoad; first | exact ev_loadFr hF rfl (by refine ⟨?_, ?_⟩; (focus (repeat (first | exact InV.head | apply InV.tail))); rfl)) | exact ev_fieldAddr rfl | exact ev_buildX rfl rfl))))) | (refine T.is ?_; first | refine T.seq ?_ | refine T.region ?_ | refine T.ret ?_ | (refine T.regionFr hF 1 8 (.s 0 (.s 1 (.s 2 (.s 3 (.s 4 (.s 5 (.e 6 (.s 7 (.e 8 .nil))))))))) mixed (by kernel_rfl) ?_; clear hF; intro wr hF)) | (refine G.is ?_; first | refine G.next ?_ | refine G.only ?_ | refine G.treeEnd rfl ?_ | refine G.tree rfl (by first | exact hF | exact hF.weak (List.sublist_append_right _ _) (by repeat (first | exact allR | apply allT)) | exact hF.weak (by repeat (first | exact List.Sublist.refl _ | apply List.Sublist.cons)) (by repeat (first | exact allR | apply allT)) | exact hF.weak (by repeat (first | exact List.Sublist.refl _ | apply List.Sublist.cons)) (by repeat (first | exact allN | refine allH (by repeat (first | exact memH | apply memT)) ?_))) ?_) | refine TL.nil ?_)
  exact G.retC1 rfl rfl (held_agg (hF.var (by repeat (first | exact InV.head | apply InV.tail))) rfl) ⟨⟨r, c, A2, n, k2, l2⟩, rfl, Fr.rm hF (by repeat (first | exact memH | apply memT)), ⟨rfl, rfl, rfl, fun q hq => same_ival (hG2 q hq).2⟩, hF.ext, hf2⟩

set_option maxRecDepth 100000 in
theorem tword_ok (w : World) (n : Nat) (h0 : 0 < n) (h1 : n < 18446744073709551616) : Cl Tryz.prog 14 #[.int .u64 (n : Int)] w (RetZ w (n : Int) 1) := by
  refine enter Tryz.func14 rfl rfl rfl ?_
  have hF := Fr.refl w
  repeat' (first | (refine TL.isOp ?_; first | (refine TL.isBin ?_; refine TL.cmpG rfl rfl rfl rfl (fun hc => ?_) (fun hc => ?_) <;> (try (first | (exfalso; omega) | exact absurd rfl hc))) | (apply TL.ev; (case hd => rfl); (case h => (first | exact ev_simple rfl | exact ev_buildX rfl rfl))) | (refine TL.storeAFr hF rfl rfl rfl rfl (by refine ⟨?_, ?_⟩; (focus (repeat (first | apply SetV.head | apply SetV.tail))); rfl) rfl ?_; clear hF; intro ws hF) | (refine TL.allocFr hF (d := 2) rfl rfl ?_; clear hF; intro w2 b2 hF) | (refine TL.build1U rfl rfl ?_; intro wn bn ebn hBn hEn hzn; have hSn := hBn.slN (n := 1) (c := 1) rfl (Nat.le_refl _) hBn.lt; replace hF := Fr.addSl (hF.exts hEn) hSn; clear ebn hBn hEn hzn hSn)) | (refine T.is ?_; first | refine T.seq ?_ | refine T.region ?_ | refine T.cond_f rfl ?_ | refine T.ret ?_ | refine T.skip ?_) | (refine G.is ?_; first | refine G.next ?_) | refine TL.nil ?_)
  exact G.retC1 rfl rfl (held_agg (hF.var (by repeat (first | exact InV.head | apply InV.tail))) rfl) ⟨⟨false, ⟨some ⟨bn, 0, none⟩, 1, 1, [n]⟩⟩, rfl, ⟨⟨Fr.sl hF (by repeat (first | exact memH | apply memT)), U64.one h1⟩, by rw [Int.natAbs_natCast]; exact (dig_small h1 (by omega)).symm, (decide_eq_false (by omega)).symm⟩, hF.ext, Nat.le_refl _⟩
end Go.Proofs.YthlbihbchobllaaGreat

namespace Go.Proofs.YthlbihbchobllaaGreat
open Go Go.Eng Go.Proofs Go.NatM Go.RowKit

theorem tword_z (w : World) (z : Int) (n : Nat) (hz : (n : Int) = z) (h0 : 0 < n) (h1 : n < 18446744073709551616) : Cl Tryz.prog 14 #[.int .u64 z] w (RetZ w z 1) := by
  subst hz; exact tword_ok w n h0 h1
def f22 (a b c d : Int) : Nat → Nat → Int := fun i j => if i = 0 then (if j = 0 then a else b) else (if j = 0 then c else d)
theorem lm22 {H : Array Obj} {a b c d : Int} {A : Option Addr} {p q r s : IV} (hs : Sm 2 ivc H H.size A 4 4 [p, q, r, s]) (hp : LI H a p) (hq : LI H b q) (hr : LI H c r) (hd : LI H d s) (np : p.m.n ≤ 1) (nq : q.m.n ≤ 1) (nr : r.m.n ≤ 1) (ns : s.m.n ≤ 1) : LM H ⟨2, 2, A, 4, 4, [p, q, r, s]⟩ 2 2 (f22 a b c d) 1 := by
  refine ⟨⟨rfl, rfl, by decide, by decide, rfl⟩, hs, fun i j hi hj => ?_⟩
  have h1 : i = 0 ∨ i = 1 := by omega
  have h2 : j = 0 ∨ j = 1 := by omega
  rcases h1 with rfl | rfl <;> rcases h2 with rfl | rfl
  · exact ⟨hp, np⟩
  · exact ⟨hq, nq⟩
  · exact ⟨hr, nr⟩
  · exact ⟨hd, ns⟩
set_option maxRecDepth 100000 in
set_option maxHeartbeats 4000000 in
theorem ttwo_ok (w : World) : Cl Tryz.prog 13 #[] w (RetM w 2 2 (f22 2 4 6 8) 1) := by
  refine enter Tryz.func13 rfl rfl rfl ?_
  have hF := Fr.refl w
  repeat' (first | (refine TL.isOp ?_; first | (refine TL.isCall ?_; refine TL.call rfl rfl ?_; first | (refine (tword_z _ 2 2 rfl (by omega) (by omega)).mono ?_; rintro _ w1 ⟨x2, rfl, hL, hE, n2⟩; replace hF := Fr.addLI (hF.exts hE) hL; clear hE hL; refine Back.mk ?_) | (refine (tword_z _ 4 4 rfl (by omega) (by omega)).mono ?_; rintro _ w1 ⟨x4, rfl, hL, hE, n4⟩; replace hF := Fr.addLI (hF.exts hE) hL; clear hE hL; refine Back.mk ?_) | (refine (tword_z _ 6 6 rfl (by omega) (by omega)).mono ?_; rintro _ w1 ⟨x6, rfl, hL, hE, n6⟩; replace hF := Fr.addLI (hF.exts hE) hL; clear hE hL; refine Back.mk ?_) | (refine (tword_z _ 8 8 rfl (by omega) (by omega)).mono ?_; rintro _ w1 ⟨x8, rfl, hL, hE, n8⟩; replace hF := Fr.addLI (hF.exts hE) hL; clear hE hL; refine Back.mk ?_)) | (apply TL.ev; (case hd => rfl); (case h => (first | exact ev_buildX rfl rfl))) | (refine TL.storeAFr hF rfl rfl rfl rfl (by refine ⟨?_, ?_⟩; (focus (repeat (first | apply SetV.head | apply SetV.tail))); rfl) rfl ?_; clear hF; intro ws hF) | (refine TL.allocFr hF (d := 0) rfl rfl ?_; clear hF; intro w0 b0 hF) | (refine TL.buildXs hF (f := ivc) (d := 5) [x2, x4, x6, x8] [.tmp 1, .tmp 2, .tmp 3, .tmp 4] rfl rfl rfl rfl (fun _ _ => rfl) rfl rfl (by omega) (by omega) ?_; intro w9 b9 hFn hEn hbn hSn; have hLm := lm22 hSn ((Fr.li hF (z := 2) (x := x2) (by repeat (first | exact memH | apply memT))).ext hEn) ((Fr.li hF (z := 4) (x := x4) (by repeat (first | exact memH | apply memT))).ext hEn) ((Fr.li hF (z := 6) (x := x6) (by repeat (first | exact memH | apply memT))).ext hEn) ((Fr.li hF (z := 8) (x := x8) (by repeat (first | exact memH | apply memT))).ext hEn) n2 n4 n6 n8; have hMf0 : MF w ⟨2, 2, some ⟨b9, 0, none⟩, 4, 4, [x2, x4, x6, x8]⟩ := .inr ⟨b9, rfl, Nat.le_trans hF.exs.size hbn⟩; replace hF := Fr.addLM hF hEn hLm (.inr ⟨b9, rfl, hbn⟩); clear hFn hEn hbn hSn hLm)) | (refine T.is ?_; first | refine T.seq ?_ | refine T.region ?_ | refine T.ret ?_) | (refine G.is ?_; first | refine G.next ?_) | refine TL.nil ?_)
  exact G.retC1 rfl rfl (held_agg (hF.var (b := b0) (by repeat (first | exact InV.head | apply InV.tail))) rfl) ⟨⟨2, 2, some ⟨b9, 0, none⟩, 4, 4, [x2, x4, x6, x8]⟩, rfl, Fr.lm hF (by repeat (first | exact memH | apply memT)), hF.ext, hMf0⟩
set_option maxRecDepth 100000 in
set_option maxHeartbeats 4000000 in
theorem tleast_ok (w : World) (x : IV) (z : Int) (h : LI w.heap z x) (hn : x.m.n ≤ 35184372088832) : Cl Tryz.prog 70 #[.agg (ivc x).toArray] w (YesM w) := by
  have hs := h.g.s
  have hu := h.g.u
  have hd := h.d
  have he := h.e
  have h0 := h.n0
  clear h
  obtain ⟨neg, ⟨A, n, c, l⟩⟩ := x
  dsimp only at hs hu hn hd he h0
  have hl := hs.len
  refine enter Tryz.func70 rfl rfl rfl ?_
  have hF := Fr.refl w
  rcases Nat.eq_zero_or_pos n with hn0 | hn0
  · have hz : z = 0 := h0.1 hn0
    subst hz hn0
    have hneg : neg = false := he
    subst hneg
    repeat' (first | (refine TL.isOp ?_; first | (refine TL.isBin ?_; refine TL.cmpG rfl rfl rfl rfl (fun hc => ?_) (fun hc => ?_) <;> (try (first | (exfalso; omega) | exact absurd rfl hc))) | (apply TL.ev; (case hd => rfl); (case h => (first | exact ev_simple rfl | (apply Ev.isLoad; first | exact ev_loadFr hF rfl (by refine ⟨?_, ?_⟩; (focus (repeat (first | exact InV.head | apply InV.tail))); rfl)) | exact ev_len rfl | exact ev_fieldAddr rfl))) | (refine TL.boxAFr hF (d := 1) (cs := [.bool false, .slice A 0 c]) rfl rfl ?_; clear hF; intro w1 b1 hF)) | (refine T.is ?_; first | refine T.seq ?_ | refine T.region ?_ | refine T.cond_t rfl ?_ | refine T.ret ?_) | (refine G.is ?_; first | refine G.next ?_ | refine G.thenR ?_) | refine TL.nil ?_)
    exact G.ret1 rfl rfl ⟨rfl, hF.ext⟩
  · have htop : 0 < l.getD (n - 1) 0 := by
      rw [hd]
      refine dig_top (v := z.natAbs) ?_
      rw [← hd, hl]; omega
    have hlt : n - 1 < n := by omega
    repeat' (first | (refine TL.isOp ?_; first | (refine TL.isBin ?_; refine TL.cmpG rfl rfl rfl rfl (fun hc => ?_) (fun hc => ?_) <;> (try (first | (exfalso; omega) | exact absurd rfl hc))) | (apply TL.ev; (case hd => rfl); (case h => (first | exact ev_simple rfl | (apply Ev.isBin; first | exact ev_arN rfl rfl rfl (by omega)) | (apply Ev.isLoad; first | exact ev_loadFr hF rfl (by refine ⟨?_, ?_⟩; (focus (repeat (first | exact InV.head | apply InV.tail))); rfl) | exact ev_loadU rfl (hs.ext hF.ext) hlt) | exact ev_len rfl | exact ev_fieldAddr rfl | exact ev_indexN rfl rfl hlt hs.some))) | (refine TL.boxAFr hF (d := 1) (cs := [.bool neg, .slice A n c]) rfl rfl ?_; clear hF; intro w1 b1 hF)) | (refine T.is ?_; first | refine T.seq ?_ | refine T.region ?_ | refine T.cond_f rfl ?_ | refine T.ret ?_ | refine T.skip ?_) | (refine G.is ?_; first | refine G.next ?_) | refine TL.nil ?_)
    all_goals exact G.ret1 rfl rfl ⟨rfl, hF.ext⟩
set_option maxRecDepth 100000 in
set_option maxHeartbeats 4000000 in
theorem tsameInt_ok (w : World) (x y : IV) (z : Int) (hx : LI w.heap z x) (hy : LI w.heap z y) (hn : x.m.n ≤ 35184372088832) : Cl Tryz.prog 52 #[.agg (ivc x).toArray, .agg (ivc y).toArray] w (YesM w) := by
  have hlx := fun w1 (hE : Ext w w1) => tleast_ok w1 x z (hx.ext hE) hn
  have e1 : y.neg = x.neg := hy.e.trans hx.e.symm
  have e2 : y.m.l = x.m.l := hy.d.trans hx.d.symm
  have e3 : y.m.n = x.m.n := by rw [← hy.g.s.len, ← hx.g.s.len, e2]
  have hly := fun w1 (hE : Ext w w1) => tleast_ok w1 y z (hy.ext hE) (by omega)
  have hs := hx.g.s
  have hs' := hy.g.s
  clear hx hy
  obtain ⟨neg, ⟨A, n, c, l⟩⟩ := x
  obtain ⟨neg', ⟨A', n', c', l'⟩⟩ := y
  dsimp only at e1 e2 e3 hs hs' hn
  subst e1 e2 e3
  refine enter Tryz.func52 rfl rfl rfl ?_
  have hF := Fr.refl w
  repeat' (first | (refine TL.isOp ?_; first | (refine TL.isG ?_; first | refine TL.grun rfl rfl rfl ?_) | (refine TL.isCall ?_; refine TL.call rfl rfl ?_; first | (refine (hlx _ hF.ext).mono ?_; rintro _ w1 ⟨rfl, hE⟩; replace hF := hF.exts hE; clear hE; refine Back.mk ?_) | (refine (hly _ hF.ext).mono ?_; rintro _ w1 ⟨rfl, hE⟩; replace hF := hF.exts hE; clear hE; refine Back.mk ?_)) | (refine TL.isBin ?_; refine TL.cmpG rfl rfl rfl rfl (fun hc => ?_) (fun hc => ?_) <;> (try (first | (exfalso; omega) | exact absurd rfl hc))) | (apply TL.ev; (case hd => rfl); (case h => (first | exact ev_simple rfl | (apply Ev.isBin; first | exact ev_neqB (r := false) rfl rfl (bne_self_eq_false _)) | (apply Ev.isLoad; first | exact ev_loadFr hF rfl (by refine ⟨?_, ?_⟩; (focus (repeat (first | exact InV.head | apply InV.tail))); rfl) | exact ev_loadAFr hF rfl (by refine ⟨?_, ?_⟩; (focus (repeat (first | exact InV.head | apply InV.tail))); rfl)) | exact ev_len rfl | exact ev_fieldAddr rfl))) | (refine TL.boxAFr hF (d := 2) (cs := [.bool neg', .slice A n' c]) rfl rfl ?_; clear hF; intro w2 b2 hF) | (refine TL.boxAFr hF (d := 3) (cs := [.bool neg', .slice A' n' c']) rfl rfl ?_; clear hF; intro w3 b3 hF)) | (refine T.is ?_; first | refine T.seq ?_ | refine T.region ?_ | refine T.block ?_ | refine T.cond_f rfl ?_ | refine T.skip ?_) | (refine G.is ?_; first | refine G.next ?_) | refine TL.nil ?_)
  refine T.loop (α := Nat) (fun i => [(2, .pointer (some ⟨b2, 0, none⟩)), (3, .pointer (some ⟨b3, 0, none⟩)), (5, .int .i64 (i : Int))])
    (fun i w' => i ≤ n' ∧ Fr w w' [⟨b3, 43, [.bool neg', .slice A' n' c']⟩, ⟨b2, 43, [.bool neg', .slice A n' c]⟩] []) (fun i => n' - i) 0 (by repeat (first | exact Sub.nil _ | refine Sub.cons rfl ?_ | refine Sub.cons' rfl (int_congr (by omega)) ?_)) ⟨Nat.zero_le _, hF.weak (.refl _) allN⟩ ?_
  clear hF
  rintro i w2 ⟨hi, hF⟩
  rcases Nat.lt_or_ge i n' with hin | hin
  · repeat' (first | (refine TL.isOp ?_; first | (refine TL.isBin ?_; refine TL.cmpG rfl rfl rfl rfl (fun hc => ?_) (fun hc => ?_) <;> (try (first | (exfalso; omega) | exact absurd rfl hc))) | (apply TL.ev; (case hd => rfl); (case h => (first | exact ev_simple rfl | (apply Ev.isBin; first | exact ev_arN rfl rfl rfl (by omega)) | (apply Ev.isLoad; first | exact ev_loadFr hF rfl (by refine ⟨?_, ?_⟩; (focus (repeat (first | exact InV.head | apply InV.tail))); rfl) | exact ev_loadU rfl (hs.ext hF.ext) hin | exact ev_loadU rfl (hs'.ext hF.ext) hin) | exact ev_len rfl | exact ev_fieldAddr rfl | exact ev_indexN rfl rfl hin hs.some | exact ev_indexN rfl rfl hin hs'.some)))) | (refine T.is ?_; first | refine T.seq ?_ | refine T.region ?_ | refine T.block ?_ | refine T.cond_t rfl ?_ | refine T.cond_f rfl ?_ | refine T.skip ?_ | refine T.regionQ mixed (by kernel_rfl) ?_) | (refine G.is ?_; first | refine G.next ?_ | refine G.blockN ?_) | refine TL.nil ?_ | (refine TL.nilFr hF ?_; clear hF; intro wq hF))
    exact G.again (i + 1) (by repeat (first | exact Sub.nil _ | refine Sub.cons rfl ?_ | refine Sub.cons' rfl (int_congr (by omega)) ?_)) ⟨hin, hF⟩ (by omega)
  · obtain rfl : i = n' := by omega
    repeat' (first | (refine TL.isOp ?_; first | (refine TL.isBin ?_; refine TL.cmpG rfl rfl rfl rfl (fun hc => ?_) (fun hc => ?_) <;> (try (first | (exfalso; omega) | exact absurd rfl hc))) | (apply TL.ev; (case hd => rfl); (case h => (first | exact ev_simple rfl | (apply Ev.isLoad; first | exact ev_loadFr hF rfl (by refine ⟨?_, ?_⟩; (focus (repeat (first | exact InV.head | apply InV.tail))); rfl)) | exact ev_len rfl | exact ev_fieldAddr rfl)))) | (refine T.is ?_; first | refine T.seq ?_ | refine T.region ?_ | refine T.cond_f rfl ?_ | refine T.exit ?_ | refine T.ret ?_) | (refine G.is ?_; first | refine G.next ?_ | refine G.blockE ?_ | refine G.thenE ?_) | refine TL.nil ?_)
    exact G.ret1 rfl rfl ⟨rfl, hF.ext⟩
set_option maxRecDepth 100000 in
set_option maxHeartbeats 4000000 in
theorem tsameRow_ok (w : World) (n : Nat) (A A' : Option Addr) (k k' : Nat) (l l' : List IV) (hs : Sm 2 ivc w.heap w.heap.size A n k l) (hs' : Sm 2 ivc w.heap w.heap.size A' n k' l') (hn : n ≤ 4096)
    (hq : ∀ q, q < n → ∃ z, LI w.heap z (l.getD q default) ∧ LI w.heap z (l'.getD q default) ∧ (l.getD q default).m.n ≤ 35184372088832) :
    Cl Tryz.prog 29 #[.slice A n k, .slice A' n k'] w (YesM w) := by
  have hlen := hs.len
  have hlen' := hs'.len
  refine enter Tryz.func29 rfl rfl rfl ?_
  have hF := Fr.refl w
  repeat' (first | (refine TL.isOp ?_; first | (refine TL.isBin ?_; refine TL.cmpG rfl rfl rfl rfl (fun hc => ?_) (fun hc => ?_) <;> (try (first | (exfalso; omega) | exact absurd rfl hc))) | (apply TL.ev; (case hd => rfl); (case h => (first | exact ev_simple rfl | exact ev_len rfl)))) | (refine T.is ?_; first | refine T.seq ?_ | refine T.region ?_ | refine T.block ?_ | refine T.cond_f rfl ?_ | refine T.skip ?_) | (refine G.is ?_; first | refine G.next ?_) | refine TL.nil ?_)
  refine T.loop (α := Nat) (fun i => [(0, .slice A n k), (1, .slice A' n k'), (5, .int .i64 (i : Int))]) (fun i w' => i ≤ n ∧ Fr w w' [] []) (fun i => n - i) 0 (by repeat (first | exact Sub.nil _ | refine Sub.cons rfl ?_ | refine Sub.cons' rfl (int_congr (by omega)) ?_)) ⟨Nat.zero_le _, hF.weak (.refl _) allN⟩ ?_
  clear hF
  rintro i w2 ⟨hi, hF⟩
  rcases Nat.lt_or_ge i n with hin | hin
  · have y1 : l[i]? = some (l.getD i default) := by simp [List.getD, show i < l.length by omega]
    have y2 : l'[i]? = some (l'.getD i default) := by simp [List.getD, show i < l'.length by omega]
    obtain ⟨z, h1, h2, h3⟩ := hq i hin
    obtain ⟨x1, e1⟩ : ∃ x, l.getD i default = x := ⟨_, rfl⟩
    obtain ⟨x2, e2⟩ : ∃ x, l'.getD i default = x := ⟨_, rfl⟩
    rw [e1] at y1 h1 h3
    rw [e2] at y2 h2
    repeat' (first | (refine TL.isOp ?_; first | (refine TL.isCall ?_; refine TL.call rfl rfl ?_; first | (refine (tsameInt_ok _ x1 x2 z (h1.ext hF.ext) (h2.ext hF.ext) h3).mono ?_; rintro _ w1 ⟨rfl, hE⟩; replace hF := hF.exts hE; clear hE; refine Back.mk ?_)) | (refine TL.isBin ?_; refine TL.cmpG rfl rfl rfl rfl (fun hc => ?_) (fun hc => ?_) <;> (try (first | (exfalso; omega) | exact absurd rfl hc))) | (apply TL.ev; (case hd => rfl); (case h => (first | exact ev_simple rfl | (apply Ev.isBin; first | exact ev_arN rfl rfl rfl (by omega)) | exact ev_len rfl)))) | (refine TF.is ?_; first | refine TF.nil ?_ | refine TF.e rfl ?_ | (refine TF.pick rfl ?_; first | (apply TFo.ev; (case hd => rfl); (case h => (intro wh hF; first | exact ev_simple rfl | (apply Ev.isLoad; first | exact ev_loadM rfl (hs.ext hF.ext) y1 | exact ev_loadM rfl (hs'.ext hF.ext) y2) | exact ev_indexM rfl rfl hin hs.some | exact ev_indexM rfl rfl hin hs'.some))))) | (refine T.is ?_; first | refine T.seq ?_ | refine T.region ?_ | refine T.block ?_ | refine T.cond_t rfl ?_ | refine T.cond_f rfl ?_ | refine T.skip ?_ | (refine T.regionFr hF 6 10 (.s 0 (.s 1 (.s 2 (.s 3 (.s 4 (.s 5 (.s 6 (.s 7 (.e 8 (.s 9 .nil)))))))))) mixed (by kernel_rfl) ?_; clear hF; intro wr hF)) | (refine G.is ?_; first | refine G.next ?_ | refine G.blockN ?_ | refine G.only ?_ | refine G.tree rfl (by first | exact hF | exact hF.weak (List.sublist_append_right _ _) (by repeat (first | exact allR | apply allT)) | exact hF.weak (by repeat (first | exact List.Sublist.refl _ | apply List.Sublist.cons)) (by repeat (first | exact allR | apply allT)) | exact hF.weak (by repeat (first | exact List.Sublist.refl _ | apply List.Sublist.cons)) (by repeat (first | exact allN | refine allH (by repeat (first | exact memH | apply memT)) ?_))) ?_) | refine TL.nil ?_)
    exact G.again (i + 1) (by repeat (first | exact Sub.nil _ | refine Sub.cons rfl ?_ | refine Sub.cons' rfl (int_congr (by omega)) ?_)) ⟨hin, hF⟩ (by omega)
  · obtain rfl : i = n := by omega
    repeat' (first | (refine TL.isOp ?_; first | (refine TL.isBin ?_; refine TL.cmpG rfl rfl rfl rfl (fun hc => ?_) (fun hc => ?_) <;> (try (first | (exfalso; omega) | exact absurd rfl hc))) | (apply TL.ev; (case hd => rfl); (case h => (first | exact ev_simple rfl | exact ev_len rfl)))) | (refine T.is ?_; first | refine T.seq ?_ | refine T.region ?_ | refine T.cond_f rfl ?_ | refine T.exit ?_ | refine T.ret ?_) | (refine G.is ?_; first | refine G.next ?_ | refine G.blockE ?_ | refine G.thenE ?_) | refine TL.nil ?_)
    exact G.ret1 rfl rfl ⟨rfl, hF.ext⟩
theorem lm_q {H : Array Obj} {x : MV} {r c K q : Nat} {F : Nat → Nat → Int} (h : LM H x r c F K) (hq : q < r * c) : LI H (F (q / c) (q % c)) (x.l.getD q default) ∧ (x.l.getD q default).m.n ≤ K := by
  have hc : 0 < c := by
    rcases Nat.eq_zero_or_pos c with h0 | h0
    · rw [h0, Nat.mul_zero] at hq; omega
    · exact h0
  have e1 : q / c < r := Nat.div_lt_of_lt_mul (by rw [Nat.mul_comm]; exact hq)
  have := h.g (q / c) (q % c) e1 (Nat.mod_lt _ hc)
  rwa [Nat.div_add_mod'] at this
set_option maxRecDepth 100000 in
set_option maxHeartbeats 4000000 in
theorem tsame_ok (w : World) (x y : MV) (r c K K' : Nat) (F : Nat → Nat → Int) (hx : LM w.heap x r c F K) (hy : LM w.heap y r c F K') (hK : K ≤ 35184372088832) : Cl Tryz.prog 10 #[.agg (mvc x).toArray, .agg (mvc y).toArray] w (YesM w) := by
  have hst := fun w1 => tsound_t w1 x r c hx.sh
  have hm := mul64 hx.sh.r64 hx.sh.c64
  have hrow := fun w1 (hE : Ext w w1) => tsameRow_ok w1 (r * c) x.A y.A x.k y.k x.l y.l (by have := (hx.s.ext hE).size; rwa [hx.sh.n] at this) (by have := (hy.s.ext hE).size; rwa [hy.sh.n] at this) hm fun q hq => ⟨_, (lm_q hx hq).1.ext hE, (lm_q hy hq).1.ext hE, Nat.le_trans (lm_q hx hq).2 hK⟩
  have h1 := hx.sh
  have h2 := hy.sh
  clear hx hy
  obtain ⟨xr, xc, A, n, k, l⟩ := x
  obtain ⟨yr, yc, A', n', k', l'⟩ := y
  obtain ⟨a1, a2, _, _, a5⟩ := h1
  obtain ⟨b1, b2, _, _, b5⟩ := h2
  dsimp only at a1 a2 a5 b1 b2 b5
  subst a1 a2 a5 b1 b2 b5
  refine enter Tryz.func10 rfl rfl rfl ?_
  have hF := Fr.refl w
  repeat' (first | (refine TL.isOp ?_; first | (refine TL.isG ?_; first | refine TL.grun rfl rfl rfl ?_) | (refine TL.isCall ?_; refine TL.call rfl rfl ?_; first | (refine (hst _).mono ?_; rintro _ w1 ⟨rfl, hE⟩; replace hF := hF.exts hE; clear hE; refine Back.mk ?_) | (refine (hrow _ hF.ext).mono ?_; rintro _ w1 ⟨rfl, hE⟩; replace hF := hF.exts hE; clear hE; refine Back.mk ?_)) | (refine TL.isBin ?_; refine TL.cmpG rfl rfl rfl rfl (fun hc => ?_) (fun hc => ?_) <;> (try (first | (exfalso; omega) | exact absurd rfl hc))) | (apply TL.ev; (case hd => rfl); (case h => (first | exact ev_simple rfl | (apply Ev.isLoad; first | exact ev_loadFr hF rfl (by refine ⟨?_, ?_⟩; (focus (repeat (first | exact InV.head | apply InV.tail))); rfl) | exact ev_loadAFr hF rfl (by refine ⟨?_, ?_⟩; (focus (repeat (first | exact InV.head | apply InV.tail))); rfl)) | exact ev_fieldAddr rfl))) | (refine TL.boxAFr hF (d := 2) (cs := [.int .i64 (r : Int), .int .i64 (c : Int), .slice A (r * c) k]) rfl rfl ?_; clear hF; intro w2 b2 hF) | (refine TL.boxAFr hF (d := 3) (cs := [.int .i64 (r : Int), .int .i64 (c : Int), .slice A' (r * c) k']) rfl rfl ?_; clear hF; intro w3 b3 hF)) | (refine T.is ?_; first | refine T.seq ?_ | refine T.region ?_ | refine T.ret ?_) | (refine G.is ?_; first | refine G.next ?_) | refine TL.nil ?_)
  all_goals exact G.ret1 rfl rfl ⟨rfl, hF.ext⟩
end Go.Proofs.YthlbihbchobllaaGreat

namespace Go.Proofs.YthlbihbchobllaaGreat
open Go Go.Eng Go.Proofs Go.NatM Go.RowKit

set_option maxRecDepth 100000 in
theorem tzeros_ok (w : World) (r c : Nat) (hr : r ≤ 64) (hcc : c ≤ 64) : Cl Tryz.prog 30 #[.int .i64 (r : Int), .int .i64 (c : Int)] w (fun e w' => ∃ b, e = .returned (.agg #[.int .i64 (r : Int), .int .i64 (c : Int), .slice (some ⟨b, 0, none⟩) (r * c) (r * c)]) ∧ Fr w w' [⟨b, 43, (List.replicate (r * c) nought).flatMap ivc⟩] []) := by
  have hm := mul64 hr hcc
  refine enter Tryz.func30 rfl rfl rfl ?_
  have hF := Fr.refl w
  repeat' (first | (refine TL.isOp ?_; first | (apply TL.ev; (case hd => rfl); (case h => (first | exact ev_simple rfl | (apply Ev.isBin; first | exact ev_arN rfl rfl rfl (by omega)) | exact ev_buildX rfl rfl))) | (refine TL.storeAFr hF rfl rfl rfl rfl (by refine ⟨?_, ?_⟩; (focus (repeat (first | apply SetV.head | apply SetV.tail))); rfl) rfl ?_; clear hF; intro ws hF) | (refine TL.allocFr hF (d := 4) rfl rfl ?_; clear hF; intro w4 b4 hF) | (refine TL.makeFr hF ivc nought (d := 10) rfl rfl rfl (Nat.le_refl _) (by omega) rfl rfl rfl ?_; clear hF; intro w7 b7 hF)) | (refine T.is ?_; first | refine T.seq ?_ | refine T.region ?_ | refine T.ret ?_) | (refine G.is ?_; first | refine G.next ?_) | refine TL.nil ?_)
  exact G.retC1 rfl rfl (held_agg (hF.var (b := b4) (by repeat (first | exact InV.head | apply InV.tail))) rfl) ⟨b7, rfl, hF.weak (by repeat (first | exact List.Sublist.refl _ | apply List.Sublist.cons_cons | apply List.Sublist.cons)) allN⟩
def uZ (n i : Nat) : Nat → Int := fun q => if q / n = q % n ∧ q / n < i then 1 else 0
theorem uZ_step {n i : Nat} (hi : i < n) {q : Nat} (h : q ≠ i * n + i) : uZ n (i + 1) q = uZ n i q := by
  unfold uZ
  have h1 := Nat.div_add_mod q n
  by_cases e : q / n = q % n ∧ q / n = i
  · exfalso
    have h2 : q % n = i := by omega
    rw [e.2, h2, Nat.mul_comm] at h1
    exact h h1.symm
  · have : (q / n = q % n ∧ q / n < i + 1) ↔ (q / n = q % n ∧ q / n < i) := ⟨fun ⟨a, b⟩ => ⟨a, by omega⟩, fun ⟨a, b⟩ => ⟨a, by omega⟩⟩
    simp only [this]
theorem uZ_at {n i : Nat} (hi : i < n) : uZ n (i + 1) (i * n + i) = 1 := by
  have h0 : 0 < n := by omega
  have e1 : (i * n + i) / n = i := by rw [Nat.mul_comm, Nat.mul_add_div h0, Nat.div_eq_of_lt hi, Nat.add_zero]
  have e2 : (i * n + i) % n = i := by rw [Nat.mul_comm, Nat.mul_add_mod, Nat.mod_eq_of_lt hi]
  unfold uZ
  rw [e1, e2, if_pos ⟨rfl, Nat.lt_succ_self _⟩]
theorem uZ_fin {n : Nat} {i j : Nat} (hi : i < n) (hj : j < n) : uZ n n (i * n + j) = if i = j then 1 else 0 := by
  have h0 : 0 < n := by omega
  have e1 : (i * n + j) / n = i := by rw [Nat.mul_comm, Nat.mul_add_div h0, Nat.div_eq_of_lt hj, Nat.add_zero]
  have e2 : (i * n + j) % n = j := by rw [Nat.mul_comm, Nat.mul_add_mod, Nat.mod_eq_of_lt hj]
  unfold uZ
  rw [e1, e2]
  simp [hi]
theorem li_nt (H : Array Obj) : LI H 0 nought := ⟨⟨⟨rfl, Nat.le_refl _, .inl rfl⟩, fun x hx => (by cases hx)⟩, by simp [dig, nought], by decide⟩
theorem lm_ofL {H : Array Obj} {b r c K : Nat} {l : List IV} {Z : Nat → Int} {F : Nat → Nat → Int} (hV : Vr H b 43 (l.flatMap ivc)) (hl : l.length = r * c) (hr : r ≤ 64) (hcc : c ≤ 64) (hk : LsK (r * c) l Z K H) (hZ : ∀ i j, i < r → j < c → Z (i * c + j) = F i j) :
    LM H ⟨r, c, some ⟨b, 0, none⟩, r * c, r * c, l⟩ r c F K :=
  ⟨⟨rfl, rfl, hr, hcc, rfl⟩, vr_sm (zs := []) (by omega) (fun _ _ => rfl) (by rw [List.append_nil]; exact hV) hl (Nat.le_refl _) hV.lt, fun i j hi hj => by rw [← hZ i j hi hj]; exact hk _ (place_lt hi hj)⟩
theorem lk_nought (H : Array Obj) (n : Nat) : LsK (n * n) (List.replicate (n * n) nought) (uZ n 0) 1 H := fun q hq => by
  have e1 : (List.replicate (n * n) nought).getD q default = nought := by simp [List.getD, List.getElem?_replicate, hq]
  have e2 : uZ n 0 q = 0 := by unfold uZ; rw [if_neg (by omega)]
  rw [e1, e2]
  exact ⟨li_nt H, Nat.zero_le _⟩
set_option maxRecDepth 100000 in
set_option maxHeartbeats 4000000 in
theorem tunit_ok (w : World) (n : Nat) (hn : n ≤ 64) : Cl Tryz.prog 11 #[.int .i64 (n : Int)] w (RetM w n n (fun i j => if i = j then 1 else 0) 1) := by
  have hm := mul64 hn hn
  refine enter Tryz.func11 rfl rfl rfl ?_
  have hF := Fr.refl w
  repeat' (first | (refine TL.isOp ?_; first | (refine TL.isCall ?_; refine TL.call rfl rfl ?_; first | (refine (tzeros_ok _ n n hn hn).mono ?_; rintro _ w5 ⟨b10, rfl, hF'⟩; replace hF := Fr.join hF hF' (fun d hd => (by cases hd)); clear hF'; refine Back.mk ?_)) | (apply TL.ev; (case hd => rfl); (case h => (first | exact ev_simple rfl))) | (refine TL.storeAFr hF rfl rfl rfl rfl (by refine ⟨?_, ?_⟩; (focus (repeat (first | apply SetV.head | apply SetV.tail))); rfl) rfl ?_; clear hF; intro ws hF) | (refine TL.allocFr hF (d := 2) rfl rfl ?_; clear hF; intro w2 b2 hF) | (refine TL.allocFr hF rfl rfl ?_; clear hF; intro wa ba hF)) | (refine T.is ?_; first | refine T.seq ?_ | refine T.region ?_ | refine T.block ?_) | (refine G.is ?_; first | refine G.next ?_) | refine TL.nil ?_)
  refine T.loop (α := Nat × List IV) (fun x => [(0, .int .i64 (n : Int)), (2, .pointer (some ⟨b2, 0, none⟩)), (3, .pointer (some ⟨ba, 0, none⟩)), (4, .int .i64 (x.1 : Int))])
    (fun x w' => x.1 ≤ n ∧ x.2.length = n * n ∧ Fr w w' [⟨ba, 24, [.int .i64 (n : Int), .int .i64 (n : Int), .slice (some ⟨b10, 0, none⟩) (n * n) (n * n)]⟩, ⟨b10, 43, x.2.flatMap ivc⟩, ⟨b2, 24, [.int .i64 0, .int .i64 0, .slice none 0 0]⟩] [dpLK (n * n) x.2 (uZ n x.1) 1])
    (fun x => n - x.1) (0, List.replicate (n * n) nought) (by repeat (first | exact Sub.nil _ | refine Sub.cons rfl ?_ | refine Sub.cons' rfl (int_congr (by omega)) ?_)) ⟨Nat.zero_le _, List.length_replicate .., Fr.addLK hF (lk_nought _ n)⟩ ?_
  clear hF
  rintro ⟨i, zl⟩ w2 ⟨hi, hzl, hF⟩
  dsimp only at hi hzl hF ⊢
  rcases Nat.lt_or_ge i n with hin | hin
  · have hidx : i * n + i < n * n := place_lt hin hin
    repeat' (first | (refine TL.isOp ?_; first | (refine TL.isCall ?_; refine TL.call rfl rfl ?_; first | (refine (tword_z _ 1 1 rfl (by omega) (by omega)).mono ?_; rintro _ wl ⟨u, rfl, hLu, hE, hn1⟩; replace hF := Fr.addLI (hF.exts hE) hLu; clear hE hLu; refine Back.mk ?_)) | (refine TL.isBin ?_; refine TL.cmpG rfl rfl rfl rfl (fun hc => ?_) (fun hc => ?_) <;> (try (first | (exfalso; omega) | exact absurd rfl hc))) | (apply TL.ev; (case hd => rfl); (case h => (first | exact ev_simple rfl | (apply Ev.isBin; first | exact ev_arN rfl rfl rfl (by omega))))) | (refine TL.storeAtFr hF (f := ivc) u rfl rfl rfl rfl (fun _ => rfl) (by rw [hzl]; exact hidx) (ivc_noV zl) (by repeat (first | apply SetV.head | apply SetV.tail)) ?_; clear hF; intro ws hF)) | (refine TF.is ?_; first | refine TF.nil ?_ | refine TF.e rfl ?_ | (refine TF.pick rfl ?_; first | (apply TFo.ev; (case hd => rfl); (case h => (intro wh hF; first | exact ev_simple rfl | (apply Ev.isBin; first | exact ev_arN rfl rfl rfl (by omega)) | (apply Ev.isLoad; first | exact ev_loadFr hF rfl (by refine ⟨?_, ?_⟩; (focus (repeat (first | exact InV.head | apply InV.tail))); rfl)) | exact ev_fieldAddr rfl | exact ev_indexM rfl rfl hidx (.inr rfl)))))) | (refine T.is ?_; first | refine T.seq ?_ | refine T.region ?_ | refine T.block ?_ | refine T.cond_t rfl ?_ | refine T.skip ?_ | (refine T.regionFo b10 hF (by repeat (first | exact Out.head | apply Out.tail)) 5 9 (.s 0 (.s 1 (.s 2 (.s 3 (.s 4 (.s 5 (.s 6 (.e 7 (.s 8 (.e 9 .nil)))))))))) mixed (by kernel_rfl) ?_; clear hF; intro wr hF)) | (refine G.is ?_; first | refine G.next ?_ | refine G.blockN ?_ | refine G.only ?_ | refine G.treeEnd rfl ?_ | refine G.tree rfl (hF.weak (by repeat (first | exact List.Sublist.refl _ | apply List.Sublist.cons_cons | apply List.Sublist.cons)) (by repeat (first | exact allR | apply allT))) ?_) | refine TL.nil ?_)
    have hu1 := Fr.li hF (z := 1) (x := u) (by repeat (first | exact memH | apply memT))
    rw [← uZ_at hin] at hu1
    have hk := LsK.setAt' (Fr.lk hF (i := n * n) (l := zl) (Z := uZ n i) (K := 1) (by repeat (first | exact memH | apply memT))) (by rw [hzl]; exact hidx) hu1 hn1 (fun p hp => uZ_step hin hp)
    exact G.again (i + 1, zl.set (i * n + i) u) (by repeat (first | exact Sub.nil _ | refine Sub.cons rfl ?_ | refine Sub.cons' rfl (int_congr (by omega)) ?_)) ⟨by dsimp only; omega, by rw [List.length_set]; exact hzl, Fr.addLK (hF.weak (List.Sublist.refl _) allN) hk⟩ (by dsimp only; omega)
  · obtain rfl : i = n := by omega
    repeat' (first | (refine TL.isOp ?_; first | (refine TL.isBin ?_; refine TL.cmpG rfl rfl rfl rfl (fun hc => ?_) (fun hc => ?_) <;> (try (first | (exfalso; omega) | exact absurd rfl hc))) | (apply TL.ev; (case hd => rfl); (case h => (first | exact ev_simple rfl | (apply Ev.isLoad; first | exact ev_loadAFr hF rfl (by refine ⟨?_, ?_⟩; (focus (repeat (first | exact InV.head | apply InV.tail))); rfl))))) | (refine TL.storeAFr hF rfl rfl rfl rfl (by refine ⟨?_, ?_⟩; (focus (repeat (first | apply SetV.head | apply SetV.tail))); rfl) rfl ?_; clear hF; intro ws hF)) | (refine T.is ?_; first | refine T.seq ?_ | refine T.region ?_ | refine T.cond_f rfl ?_ | refine T.exit ?_ | refine T.ret ?_) | (refine G.is ?_; first | refine G.next ?_ | refine G.blockE ?_ | refine G.thenE ?_) | refine TL.nil ?_)
    have hb := (hF.lo (b := b10) (by repeat (first | exact InV.head | apply InV.tail))).resolve_right id
    have hL := lm_ofL (F := fun x y => if x = y then 1 else 0) (hF.var (b := b10) (by repeat (first | exact InV.head | apply InV.tail))) hzl hn hn (Fr.lk hF (i := i * i) (l := zl) (Z := uZ i i) (K := 1) (by repeat (first | exact memH | apply memT))) fun a b ha hb => uZ_fin ha hb
    exact G.retC1 rfl rfl (held_agg (hF.var (b := b2) (by repeat (first | exact InV.head | apply InV.tail))) rfl) ⟨⟨i, i, some ⟨b10, 0, none⟩, i * i, i * i, zl⟩, rfl, hL, hF.ext, .inr ⟨b10, rfl, hb⟩⟩
theorem tisZero_ok (w : World) (x : IV) (z : Int) (h : LI w.heap z x) : Cl Tryz.prog 27 #[.agg (ivc x).toArray] w (fun e w' => e = .returned (.bool (decide (z = 0))) ∧ Ext w w') := by
  have h0 := h.n0
  have he := h.e
  obtain ⟨neg, ⟨A, n, c, l⟩⟩ := x
  dsimp only at h0 he
  subst he
  refine enter Tryz.func27 rfl rfl rfl ?_
  have hF := Fr.refl w
  by_cases hz : z = 0
  · subst hz
    obtain rfl : 0 = n := (h0.2 rfl).symm
    repeat' (first | (refine TL.isOp ?_; first | (refine TL.isG ?_; first | refine TL.grun rfl rfl rfl ?_) | (refine TL.isBin ?_; refine TL.cmpG rfl rfl rfl rfl (fun hc => ?_) (fun hc => ?_) <;> (try (first | (exfalso; omega) | exact absurd rfl hc))) | (apply TL.ev; (case hd => rfl); (case h => (first | exact ev_simple rfl | (apply Ev.isLoad; first | exact ev_loadFr hF rfl (by refine ⟨?_, ?_⟩; (focus (repeat (first | exact InV.head | apply InV.tail))); rfl)) | exact ev_len rfl | exact ev_fieldAddr rfl))) | (refine TL.boxAFr hF (d := 1) (cs := [.bool (decide ((0 : Int) < 0)), .slice A 0 c]) rfl rfl ?_; clear hF; intro w1 b1 hF)) | (refine T.is ?_; first | refine T.seq ?_ | refine T.region ?_ | refine T.ret ?_) | (refine G.is ?_; first | refine G.next ?_) | refine TL.nil ?_)
    exact G.ret1 rfl rfl ⟨rfl, hF.ext⟩
  · have hn : 0 < n := Nat.pos_of_ne_zero fun h => hz (h0.1 h)
    repeat' (first | (refine TL.isOp ?_; first | (refine TL.isG ?_; first | refine TL.gskip rfl rfl rfl rfl ?_) | (refine TL.isBin ?_; refine TL.cmpG rfl rfl rfl rfl (fun hc => ?_) (fun hc => ?_) <;> (try (first | (exfalso; omega) | exact absurd rfl hc))) | (apply TL.ev; (case hd => rfl); (case h => (first | exact ev_simple rfl | (apply Ev.isLoad; first | exact ev_loadFr hF rfl (by refine ⟨?_, ?_⟩; (focus (repeat (first | exact InV.head | apply InV.tail))); rfl)) | exact ev_len rfl | exact ev_fieldAddr rfl))) | (refine TL.boxAFr hF (d := 1) (cs := [.bool (decide (z < 0)), .slice A n c]) rfl rfl ?_; clear hF; intro w1 b1 hF)) | (refine T.is ?_; first | refine T.seq ?_ | refine T.region ?_ | refine T.ret ?_) | (refine G.is ?_; first | refine G.next ?_) | refine TL.nil ?_)
    exact G.ret1 rfl rfl ⟨by rw [decide_eq_false hz], hF.ext⟩
theorem row_part {H : Array Obj} {A : Option Addr} {r c k K i : Nat} {l : List IV} {F : Nat → Nat → Int} (hL : LM H ⟨r, c, A, r * c, k, l⟩ r c F K) (hin : i < r) : (i + 1) * c ≤ k ∧ LL H (cutM 2 A k (i * c)) c (k - i * c) ((l.drop (i * c)).take c) (F i) K := by
  have hkk := hL.s.cap
  dsimp only at hkk
  have hrow : i * c + c ≤ r * c := by have := Nat.mul_le_mul_right c (show i + 1 ≤ r from hin); rw [Nat.add_mul, Nat.one_mul] at this; exact this
  have hi1 : (i + 1) * c = i * c + c := by rw [Nat.add_mul, Nat.one_mul]
  have hsr : Sm 2 ivc H H.size (cutM 2 A k (i * c)) c (k - i * c) ((l.drop (i * c)).take c) := by
    have := hL.s.dropTake (i := i * c) (j := (i + 1) * c) (m := k) (m' := k - i * c) (by omega) (by dsimp only; omega) hkk (by omega)
    rwa [row_sub] at this
  refine ⟨by omega, hsr, fun q hq => ?_⟩
  have e1 : ((l.drop (i * c)).take c).getD q default = l.getD (i * c + q) default := by simp [List.getD, List.getElem?_take, hq, List.getElem?_drop]
  rw [e1]
  exact hL.g i q hin hq
set_option maxRecDepth 100000 in
theorem trow_ok (w : World) (x : MV) (r c K i : Nat) (F : Nat → Nat → Int) (h : LM w.heap x r c F K) (hi : i < r) : Cl Tryz.prog 26 #[.agg (mvc x).toArray, .int .i64 (i : Int)] w (fun e w' => e = .returned (.slice (cutM 2 x.A x.k (i * c)) c (x.k - i * c)) ∧ Ext w w') := by
  have hr := h.sh.r64
  have hc64 := h.sh.c64
  have h1 := h.sh
  obtain ⟨xr, xc, A, n, k, l⟩ := x
  obtain ⟨a1, a2, _, _, a5⟩ := h1
  dsimp only at a1 a2 a5
  subst a1 a2 a5
  obtain ⟨hle, hl⟩ := row_part h hi
  have hm := mul64 hr hc64
  have hm2 : i * c ≤ 4096 := Nat.le_trans (Nat.mul_le_mul_right c (by omega)) hm
  have hm3 : (i + 1) * c ≤ 4096 := Nat.le_trans (Nat.mul_le_mul_right c hi) hm
  refine enter Tryz.func26 rfl rfl rfl ?_
  have hF := Fr.refl w
  repeat' (first | (refine TL.isOp ?_; first | (apply TL.ev; (case hd => rfl); (case h => (first | exact ev_simple rfl | (apply Ev.isBin; first | exact ev_arN rfl rfl rfl (by omega)) | (apply Ev.isLoad; first | exact ev_loadFr hF rfl (by refine ⟨?_, ?_⟩; (focus (repeat (first | exact InV.head | apply InV.tail))); rfl)) | exact ev_fieldAddr rfl | exact ev_rowSl rfl rfl rfl hle))) | (refine TL.boxAFr hF (d := 2) (cs := [.int .i64 (r : Int), .int .i64 (c : Int), .slice A (r * c) k]) rfl rfl ?_; clear hF; intro w2 b2 hF)) | (refine T.is ?_; first | refine T.seq ?_ | refine T.region ?_ | refine T.ret ?_) | (refine G.is ?_; first | refine G.next ?_) | refine TL.nil ?_)
  exact G.ret1 rfl rfl ⟨rfl, hF.ext⟩
end Go.Proofs.YthlbihbchobllaaGreat

namespace Go.Det
/-- r rows of c numbers in Hermite form; rows with J i ≥ c are zero -/
def HermP (r c : Nat) (F : Mx) (J : Nat → Nat) : Prop := ∀ i, i < r →
  (J i < c → (∀ q, q < J i → F i q = 0) ∧ 1 ≤ F i (J i) ∧ (∀ k, k < i → J k < J i ∧ J k < c ∧ 0 ≤ F k (J i) ∧ F k (J i) < F i (J i))) ∧ (c ≤ J i → ∀ q, q < c → F i q = 0)
theorem HermP.at {r c i a : Nat} {F : Mx} {J : Nat → Nat} (h : HermP r c F J) (hi : i < r) (ha : a < c) (h0 : ∀ q, q < a → F i q = 0) (h1 : F i a ≠ 0) : J i = a := by
  rcases Nat.lt_or_ge (J i) c with e | e
  · have h2 := (h i hi).1 e
    rcases Nat.lt_trichotomy (J i) a with e1 | e1 | e1
    · have := h0 _ e1; omega
    · exact e1
    · exact absurd (h2.1 a e1) h1
  · exact absurd ((h i hi).2 e a ha) h1
theorem HermP.none {r c i : Nat} {F : Mx} {J : Nat → Nat} (h : HermP r c F J) (hi : i < r) (h0 : ∀ q, q < c → F i q = 0) : c ≤ J i := by
  rcases Nat.lt_or_ge (J i) c with e | e
  · have h2 := (h i hi).1 e
    have := h0 _ e; omega
  · exact e
end Go.Det
namespace Go.Proofs.YthlbihbchobllaaGreat
open Go Go.Eng Go.Proofs Go.NatM Go.RowKit Go.Det

/-- the state of the law's loop -/
structure Hst where
  i : Nat
  rk : Nat
  la : Int
def HstOk (r c : Nat) (J : Nat → Nat) (z : Hst) : Prop := z.i ≤ r ∧ z.rk ≤ z.i ∧ ((∀ k, k < z.i → J k < c) → z.rk = z.i ∧ z.la = if z.i = 0 then -1 else (J (z.i - 1) : Int))
def RetHm (w : World) (e : Ending) (w' : World) : Prop := ∃ n : Nat, e = .returned (.tuple #[.int .i64 (n : Int), .bool true]) ∧ Ext w w'
set_option maxRecDepth 100000 in
set_option maxHeartbeats 8000000 in
theorem thermite_ok (w : World) (x : MV) (r c K : Nat) (F : Mx) (J : Nat → Nat) (h : LM w.heap x r c F K) (hK : K ≤ 1099511627776) (hH : HermP r c F J) : Cl Tryz.prog 9 #[.agg (mvc x).toArray] w (RetHm w) := by
  have hr := h.sh.r64
  have hc64 := h.sh.c64
  have hrow := fun i w1 (hE : Ext w w1) (hi : i < r) => trow_ok w1 x r c K i F (h.ext hE) hi
  have h1 := h.sh
  obtain ⟨xr, xc, A, n, k, l⟩ := x
  obtain ⟨a1, a2, _, _, a5⟩ := h1
  dsimp only at a1 a2 a5 hrow
  subst a1 a2 a5
  have hm := mul64 hr hc64
  refine enter Tryz.func9 rfl rfl rfl ?_
  have hF := Fr.refl w
  repeat' (first | (refine TL.isOp ?_; first | (apply TL.ev; (case hd => rfl); (case h => (first | exact ev_simple rfl))) | (refine TL.boxAFr hF (d := 1) (cs := [.int .i64 (r : Int), .int .i64 (c : Int), .slice A (r * c) k]) rfl rfl ?_; clear hF; intro w1 b1 hF)) | (refine T.is ?_; first | refine T.seq ?_ | refine T.region ?_ | refine T.block ?_) | (refine G.is ?_; first | refine G.next ?_) | refine TL.nil ?_)
  refine T.loop (α := Hst) (fun z => [(1, .pointer (some ⟨b1, 0, none⟩)), (4, .int .i64 (z.rk : Int)), (5, .int .i64 z.la), (6, .int .i64 (z.i : Int))])
    (fun z w' => HstOk r c J z ∧ Fr w w' [⟨b1, 24, [.int .i64 (r : Int), .int .i64 (c : Int), .slice A (r * c) k]⟩] []) (fun z => r - z.i) ⟨0, 0, -1⟩ (by repeat (first | exact Sub.nil _ | refine Sub.cons rfl ?_ | refine Sub.cons' rfl (int_congr (by omega)) ?_)) ⟨⟨Nat.zero_le _, Nat.le_refl _, fun _ => ⟨rfl, rfl⟩⟩, hF.weak (.refl _) allN⟩ ?_
  clear hF
  rintro ⟨i, rk, la⟩ w2 ⟨⟨hi, hrk, hst⟩, hF⟩
  dsimp only at hi hrk hst hF ⊢
  rcases Nat.lt_or_ge i r with hin | hin
  · obtain ⟨hle, hll⟩ := row_part h hin
    have hro := fun w1 (hE : Ext w w1) => hrow i w1 hE hin
    generalize cutM 2 A k (i * c) = A' at hll hro
    generalize k - i * c = k' at hll hro
    generalize (l.drop (i * c)).take c = l' at hll
    have hll' := hll.s.len
    repeat' (first | (refine TL.isOp ?_; first | (refine TL.isCall ?_; refine TL.call rfl rfl ?_; first | (refine (hro _ hF.ext).mono ?_; rintro _ w3 ⟨rfl, hE⟩; replace hF := hF.exts hE; clear hE; refine Back.mk ?_)) | (refine TL.isBin ?_; refine TL.cmpG rfl rfl rfl rfl (fun hc => ?_) (fun hc => ?_) <;> (try (first | (exfalso; omega) | exact absurd rfl hc))) | (apply TL.ev; (case hd => rfl); (case h => (first | exact ev_simple rfl | (apply Ev.isLoad; first | exact ev_loadFr hF rfl (by refine ⟨?_, ?_⟩; (focus (repeat (first | exact InV.head | apply InV.tail))); rfl) | exact ev_loadAFr hF rfl (by refine ⟨?_, ?_⟩; (focus (repeat (first | exact InV.head | apply InV.tail))); rfl)) | exact ev_fieldAddr rfl)))) | (refine T.is ?_; first | refine T.seq ?_ | refine T.region ?_ | refine T.block ?_ | refine T.cond_t rfl ?_ | refine T.skip ?_) | (refine G.is ?_; first | refine G.next ?_) | refine TL.nil ?_)
    refine T.loop (α := Nat) (fun z => [(1, .pointer (some ⟨b1, 0, none⟩)), (4, .int .i64 (rk : Int)), (5, .int .i64 la), (6, .int .i64 (i : Int)), (7, .slice A' c k'), (8, .int .i64 (z : Int))])
      (fun z w' => (z ≤ c ∧ ∀ q, q < z → F i q = 0) ∧ Fr w w' [⟨b1, 24, [.int .i64 (r : Int), .int .i64 (c : Int), .slice A (r * c) k]⟩] []) (fun z => c - z) 0 (by repeat (first | exact Sub.nil _ | refine Sub.cons rfl ?_ | refine Sub.cons' rfl (int_congr (by omega)) ?_)) ⟨⟨Nat.zero_le _, fun q hq => absurd hq (Nat.not_lt_zero _)⟩, hF.weak (.refl _) allN⟩ ?_
    clear hF
    rintro a w4 ⟨⟨ha, hz⟩, hF⟩
    rcases Nat.lt_or_ge a c with hac | hac
    · have hy : l'[a]? = some (l'.getD a default) := by simp [List.getD, show a < l'.length by omega]
      obtain ⟨hva, hvn⟩ := hll.g a hac
      obtain ⟨v, hve⟩ : ∃ v, l'.getD a default = v := ⟨_, rfl⟩
      rw [hve] at hy hva hvn
      by_cases h0 : F i a = 0
      · have hiz := fun w1 (hE : Ext w w1) => tisZero_ok w1 v (F i a) (hva.ext hE)
        rw [h0] at hiz
        repeat' (first | (refine TL.isOp ?_; first | (refine TL.isG ?_; first | refine TL.grun rfl rfl rfl ?_) | (refine TL.isCall ?_; refine TL.call rfl rfl ?_; first | (refine (hiz _ hF.ext).mono ?_; rintro _ w3 ⟨rfl, hE⟩; replace hF := hF.exts hE; clear hE; refine Back.mk ?_)) | (refine TL.isBin ?_; refine TL.cmpG rfl rfl rfl rfl (fun hc => ?_) (fun hc => ?_) <;> (try (first | (exfalso; omega) | exact absurd rfl hc))) | (apply TL.ev; (case hd => rfl); (case h => (first | exact ev_simple rfl | (apply Ev.isBin; first | exact ev_arN rfl rfl rfl (by omega)) | (apply Ev.isLoad; first | exact ev_loadFr hF rfl (by refine ⟨?_, ?_⟩; (focus (repeat (first | exact InV.head | apply InV.tail))); rfl) | exact ev_loadM rfl (hll.s.ext hF.ext) hy) | exact ev_fieldAddr rfl | exact ev_indexM rfl rfl hac hll.s.some)))) | (refine T.is ?_; first | refine T.seq ?_ | refine T.region ?_ | refine T.block ?_ | refine T.cond_t rfl ?_ | refine T.skip ?_) | (refine G.is ?_; first | refine G.next ?_ | refine G.blockN ?_) | refine TL.nil ?_)
        exact G.again (a + 1) (by repeat (first | exact Sub.nil _ | refine Sub.cons rfl ?_ | refine Sub.cons' rfl (int_congr (by omega)) ?_)) ⟨⟨hac, fun q hq => by rcases Nat.lt_or_ge q a with e | e; exact hz q e; rw [show q = a by omega]; exact h0⟩, hF⟩ (by omega)
      · have hiz := fun w1 (hE : Ext w w1) => tisZero_ok w1 v (F i a) (hva.ext hE)
        rw [decide_eq_false h0] at hiz
        have hJa := hH.at hin hac hz h0
        have hr1 := (hH i hin).1 (by omega)
        rw [hJa] at hr1
        obtain ⟨e1, e2⟩ := hst fun k hk => (hr1.2.2 k hk).2.1
        subst e1
        have hla : la < (a : Int) := by
          rw [e2]
          split
          · omega
          · have := (hr1.2.2 (rk - 1) (by omega)).1; omega
        have hvneg : v.neg = false := hva.e.trans (decide_eq_false (by omega))
        have hvg := hva.g
        have hvi := hva.val
        have hcmp := fun w1 (hE : Ext w w1) (u : IV) (z : Int) (hu : LI w.heap z u) (hun : u.m.n ≤ K) (hlt : z < F rk a) => (zcmp_ok w1 u v (hu.g.ext hE) (hvg.ext hE) (by omega) (by omega)).mono (fun e w' (h : e = .returned (.int .i64 (cmpZ (ival u) (ival v))) ∧ Ext w1 w') => (⟨by rw [h.1, hu.val, hvi]; unfold cmpZ; rw [if_pos hlt], h.2⟩ : e = .returned (.int .i64 (-1)) ∧ Ext w1 w'))
        clear hva hvi
        obtain ⟨vs, ⟨vA, vn, vc, vl⟩⟩ := v
        dsimp only at hvneg hvn
        subst hvneg
        have hrk2 := hrk
        repeat' (first | (refine TL.isOp ?_; first | (refine TL.isG ?_; first | refine TL.grun rfl rfl rfl ?_) | (refine TL.isCall ?_; refine TL.call rfl rfl ?_; first | (refine (hiz _ hF.ext).mono ?_; rintro _ w3 ⟨rfl, hE⟩; replace hF := hF.exts hE; clear hE; refine Back.mk ?_)) | (refine TL.isBin ?_; refine TL.cmpG rfl rfl rfl rfl (fun hc => ?_) (fun hc => ?_) <;> (try (first | (exfalso; omega) | exact absurd rfl hc))) | (apply TL.ev; (case hd => rfl); (case h => (first | exact ev_simple rfl | (apply Ev.isLoad; first | exact ev_loadFr hF rfl (by refine ⟨?_, ?_⟩; (focus (repeat (first | exact InV.head | apply InV.tail))); rfl) | exact ev_loadM rfl (hll.s.ext hF.ext) hy | exact ev_loadMF rfl (hll.s.ext hF.ext) hy rfl) | exact ev_fieldAddr rfl | exact ev_indexM rfl rfl hac hll.s.some | exact ev_fieldAddrE rfl (hll.s.isSome hac))))) | (refine T.is ?_; first | refine T.seq ?_ | refine T.region ?_ | refine T.block ?_ | refine T.cond_f rfl ?_ | refine T.exit ?_ | refine T.skip ?_) | (refine G.is ?_; first | refine G.next ?_ | refine G.blockE ?_ | refine G.thenE ?_) | refine TL.nil ?_)
        refine T.loop (α := Nat) (fun z => [(1, .pointer (some ⟨b1, 0, none⟩)), (4, .int .i64 (rk : Int)), (5, .int .i64 la), (6, .int .i64 (rk : Int)), (7, .slice A' c k'), (8, .int .i64 (a : Int)), (9, .int .i64 (z : Int))])
          (fun z w' => z ≤ rk ∧ Fr w w' [⟨b1, 24, [.int .i64 (r : Int), .int .i64 (c : Int), .slice A (r * c) k]⟩] []) (fun z => rk - z) 0 (by repeat (first | exact Sub.nil _ | refine Sub.cons rfl ?_ | refine Sub.cons' rfl (int_congr (by omega)) ?_)) ⟨Nat.zero_le _, hF.weak (.refl _) allN⟩ ?_
        clear hF
        rintro q w5 ⟨hq, hF⟩
        rcases Nat.lt_or_ge q rk with hqr | hqr
        · have hr2 := hr1.2.2 q hqr
          have hqr2 : q < r := by omega
          have hidx : q * c + a < r * c := place_lt hqr2 hac
          have hlen := h.s.len
          dsimp only at hlen
          have hy2 : l[q * c + a]? = some (l.getD (q * c + a) default) := by simp [List.getD, show q * c + a < l.length by omega]
          obtain ⟨hua, hun⟩ := h.g q a hqr2 hac
          dsimp only at hua hun
          obtain ⟨u, hue⟩ : ∃ u, l.getD (q * c + a) default = u := ⟨_, rfl⟩
          rw [hue] at hy2 hua hun
          have hcm := fun w1 (hE : Ext w w1) => hcmp w1 hE u _ hua hun hr2.2.2.2
          have huneg : u.neg = false := hua.e.trans (decide_eq_false (by omega))
          clear hua hue
          obtain ⟨us, ⟨uA, un, uc, ul⟩⟩ := u
          dsimp only at huneg hun
          subst huneg
          repeat' (first | (refine TL.isOp ?_; first | (refine TL.isG ?_; first | refine TL.grun rfl rfl rfl ?_) | (refine TL.isCall ?_; refine TL.call rfl rfl ?_; first | (refine (hcm _ hF.ext).mono ?_; rintro _ w3 ⟨rfl, hE⟩; replace hF := hF.exts hE; clear hE; refine Back.mk ?_)) | (refine TL.isBin ?_; refine TL.cmpG rfl rfl rfl rfl (fun hc => ?_) (fun hc => ?_) <;> (try (first | (exfalso; omega) | exact absurd rfl hc))) | (apply TL.ev; (case hd => rfl); (case h => (first | exact ev_simple rfl | (apply Ev.isBin; first | exact ev_arN rfl rfl rfl (by omega)) | (apply Ev.isLoad; first | exact ev_loadFr hF rfl (by refine ⟨?_, ?_⟩; (focus (repeat (first | exact InV.head | apply InV.tail))); rfl) | exact ev_loadM rfl (h.s.ext hF.ext) hy2) | exact ev_fieldAddr rfl | exact ev_indexM rfl rfl hidx (h.s.ext hF.ext).some))) | (refine TL.storeAFr hF rfl rfl rfl rfl (by refine ⟨?_, ?_⟩; (focus (repeat (first | apply SetV.head | apply SetV.tail))); rfl) rfl ?_; clear hF; intro ws hF) | (refine TL.allocFr hF rfl rfl ?_; clear hF; intro wa ba hF)) | (refine TF.is ?_; first | refine TF.nil ?_ | refine TF.e rfl ?_ | (refine TF.pick rfl ?_; first | (refine TFo.cmpGg rfl rfl rfl rfl rfl rfl rfl (fun hc => ?_) (fun hc => ?_) <;> (try (first | (exfalso; omega) | exact absurd rfl hc))) | (apply TFo.ev; (case hd => rfl); (case h => (intro wh hF; first | exact ev_simple rfl | (apply Ev.isLoad; first | exact ev_loadFr hF rfl (by refine ⟨?_, ?_⟩; (focus (repeat (first | exact InV.head | apply InV.tail))); rfl)) | exact ev_fieldAddr rfl))) | (apply TFo.evg rfl rfl rfl; (case hd => rfl); (case h => (intro wh hF; first | exact ev_simple rfl | (apply Ev.isLoad; first | exact ev_loadAFr hF rfl (by refine ⟨?_, ?_⟩; (focus (repeat (first | exact InV.head | apply InV.tail))); rfl) | exact ev_loadMc [.bool false, .slice vA vn vc] rfl (hll.s.ext hF.ext) hy rfl) | exact ev_indexM rfl rfl hac hll.s.some))))) | (refine T.is ?_; first | refine T.seq ?_ | refine T.region ?_ | refine T.block ?_ | refine T.cond_t rfl ?_ | refine T.cond_f rfl ?_ | refine T.skip ?_ | (refine T.regionFr hF 16 11 (.s 0 (.s 1 (.s 2 (.s 3 (.s 4 (.s 5 (.s 6 (.s 7 (.e 8 (.s 9 (.s 10 .nil))))))))))) mixed (by kernel_rfl) ?_; clear hF; intro wr hF)) | (refine G.is ?_; first | refine G.next ?_ | refine G.blockN ?_ | refine G.only ?_ | refine G.tree rfl (by first | exact hF | exact hF.weak (List.sublist_append_right _ _) (by repeat (first | exact allR | apply allT)) | exact hF.weak (by repeat (first | exact List.Sublist.refl _ | apply List.Sublist.cons)) (by repeat (first | exact allR | apply allT)) | exact hF.weak (by repeat (first | exact List.Sublist.refl _ | apply List.Sublist.cons)) (by repeat (first | exact allN | refine allH (by repeat (first | exact memH | apply memT)) ?_))) ?_) | refine TL.nil ?_)
          exact G.again (q + 1) (by repeat (first | exact Sub.nil _ | refine Sub.cons rfl ?_ | refine Sub.cons' rfl (int_congr (by omega)) ?_)) ⟨hqr, hF.weak (by repeat (first | exact List.Sublist.refl _ | apply List.Sublist.cons_cons | apply List.Sublist.cons)) allN⟩ (by omega)
        · obtain rfl : q = rk := by omega
          repeat' (first | (refine TL.isOp ?_; first | (refine TL.isBin ?_; refine TL.cmpG rfl rfl rfl rfl (fun hc => ?_) (fun hc => ?_) <;> (try (first | (exfalso; omega) | exact absurd rfl hc))) | (apply TL.ev; (case hd => rfl); (case h => (first | exact ev_simple rfl | (apply Ev.isBin; first | exact ev_arN rfl rfl rfl (by omega)))))) | (refine T.is ?_; first | refine T.seq ?_ | refine T.region ?_ | refine T.cond_f rfl ?_ | refine T.exit ?_) | (refine G.is ?_; first | refine G.next ?_ | refine G.blockN ?_ | refine G.blockE ?_ | refine G.thenE ?_) | refine TL.nil ?_)
          exact G.again ⟨q + 1, q + 1, (a : Int)⟩ (by repeat (first | exact Sub.nil _ | refine Sub.cons rfl ?_ | refine Sub.cons' rfl (int_congr (by omega)) ?_)) ⟨⟨hin, Nat.le_refl _, fun _ => ⟨rfl, by dsimp only; rw [if_neg (Nat.succ_ne_zero _), Nat.add_sub_cancel, hJa]⟩⟩, hF⟩ (by dsimp only; omega)
    · obtain rfl : a = c := by omega
      have hJn := hH.none hin hz
      repeat' (first | (refine TL.isOp ?_; first | (refine TL.isG ?_; first | refine TL.gskip rfl rfl rfl rfl ?_) | (refine TL.isBin ?_; refine TL.cmpG rfl rfl rfl rfl (fun hc => ?_) (fun hc => ?_) <;> (try (first | (exfalso; omega) | exact absurd rfl hc))) | (apply TL.ev; (case hd => rfl); (case h => (first | exact ev_simple rfl | (apply Ev.isBin; first | exact ev_arN rfl rfl rfl (by omega)) | (apply Ev.isLoad; first | exact ev_loadFr hF rfl (by refine ⟨?_, ?_⟩; (focus (repeat (first | exact InV.head | apply InV.tail))); rfl)) | exact ev_fieldAddr rfl)))) | (refine T.is ?_; first | refine T.seq ?_ | refine T.region ?_ | refine T.cond_t rfl ?_ | refine T.cond_f rfl ?_ | refine T.exit ?_) | (refine G.is ?_; first | refine G.next ?_ | refine G.blockE ?_ | refine G.thenE ?_) | refine TL.nil ?_)
      exact G.again ⟨i + 1, rk, la⟩ (by repeat (first | exact Sub.nil _ | refine Sub.cons rfl ?_ | refine Sub.cons' rfl (int_congr (by omega)) ?_)) ⟨⟨hin, by dsimp only; omega, fun hall => absurd (hall i (Nat.lt_succ_self _)) (by omega)⟩, hF⟩ (by dsimp only; omega)
  · obtain rfl : i = r := by omega
    repeat' (first | (refine TL.isOp ?_; first | (refine TL.isBin ?_; refine TL.cmpG rfl rfl rfl rfl (fun hc => ?_) (fun hc => ?_) <;> (try (first | (exfalso; omega) | exact absurd rfl hc))) | (apply TL.ev; (case hd => rfl); (case h => (first | exact ev_simple rfl | (apply Ev.isLoad; first | exact ev_loadFr hF rfl (by refine ⟨?_, ?_⟩; (focus (repeat (first | exact InV.head | apply InV.tail))); rfl)) | exact ev_fieldAddr rfl)))) | (refine T.is ?_; first | refine T.seq ?_ | refine T.region ?_ | refine T.cond_f rfl ?_ | refine T.exit ?_ | refine T.ret ?_) | (refine G.is ?_; first | refine G.next ?_ | refine G.blockE ?_ | refine G.thenE ?_) | refine TL.nil ?_)
    exact G.ret2 rfl rfl rfl ⟨rk, rfl, hF.ext⟩
end Go.Proofs.YthlbihbchobllaaGreat

namespace Go.Det
theorem wake_form {t : Nat} {A F : Mx} {J : Nat → Nat} (ht : t ≤ 2) (hR : Go.Proofs.YthlbihbchobllaaGreat.RedS 2 t t 2 A F J) (h0 : ∀ c, A 0 c = if c = 0 then 2 else if c = 1 then 4 else 0) (h1 : ∀ c, A 1 c = if c = 0 then 6 else if c = 1 then 8 else 0) : F 0 0 = 2 ∧ F 0 1 = 0 ∧ F 1 0 = 0 ∧ F 1 1 = 4 := by
  have hl := hR.lat
  rw [show t + (2 - t) = 2 by omega] at hl
  have hx0 := hl.to 0 (by decide)
  have hx1 := hl.to 1 (by decide)
  obtain ⟨x, hx⟩ := hx0
  obtain ⟨y, hy⟩ := hx1
  have x0 := (h0 0).symm.trans (hx 0)
  have x1 := (h0 1).symm.trans (hx 1)
  have y0 := (h1 0).symm.trans (hy 0)
  have y1 := (h1 1).symm.trans (hy 1)
  have ht2 : t = 2 := by
    match t, ht with
    | 0, _ => exact absurd (show (2 : Int) = 0 from x0) (by decide)
    | 1, _ =>
      exfalso
      simp only [sm, if_true, if_false, Nat.one_ne_zero, Int.zero_add] at x0 x1 y0 y1
      have e1 : (2 : Int) * 8 = 4 * 6 := by rw [x0, y1, x1, y0]; grind
      omega
    | 2, _ => rfl
  subst ht2
  obtain ⟨u, hu⟩ := hl.of 0 (by decide)
  obtain ⟨v, hv⟩ := hl.of 1 (by decide)
  simp only [sm, Int.zero_add, h0, h1] at hu hv
  simp only [sm, Int.zero_add, h0, h1] at hx hy
  exact wake2 hR.ech hR.red (fun i c hi hc => by
    have e : i = 0 ∨ i = 1 := by omega
    rcases e with rfl | rfl
    · rw [hu c, if_neg (by omega), if_neg (by omega), if_neg (by omega), if_neg (by omega)]; omega
    · rw [hv c, if_neg (by omega), if_neg (by omega), if_neg (by omega), if_neg (by omega)]; omega) hu hv hx hy
end Go.Det
namespace Go.Proofs.YthlbihbchobllaaGreat
open Go Go.Eng Go.Proofs Go.NatM Go.RowKit Go.Det
theorem psum_is (f : Nat → Int) : ∀ n, psum f n = sm f n
  | 0 => rfl
  | n + 1 => by show f n + psum f n = sm f n + f n; rw [psum_is f n, Int.add_comm]
theorem LM.mx {H : Array Obj} {x : MV} {r c K : Nat} {F : Nat → Nat → Int} (h : LM H x r c F K) {i q : Nat} (hi : i < r) (hq : q < c) : mxOf x r c i q = F i q := by rw [mxOf_in hi hq, h.ent hi hq]
theorem two_row {H : Array Obj} {x : MV} {K i : Nat} {a b c d : Int} (h : LM H x 2 2 (f22 a b c d) K) (hi : i < 2) (q : Nat) : mxOf x 2 2 i q = if q = 0 then f22 a b c d i 0 else if q = 1 then f22 a b c d i 1 else 0 := by
  rcases Nat.lt_or_ge q 2 with e | e
  · rw [LM.mx h hi e]
    have e2 : q = 0 ∨ q = 1 := by omega
    rcases e2 with rfl | rfl <;> rfl
  · rw [mxOf_out e, if_neg (by omega), if_neg (by omega)]
theorem LM.congrX {H : Array Obj} {x : MV} {r c K : Nat} {F G : Nat → Nat → Int} (h : LM H x r c F K) (e : ∀ i j, i < r → j < c → F i j = G i j) : LM H x r c G K := ⟨h.sh, h.s, fun i j hi hj => by rw [← e i j hi hj]; exact h.g i j hi hj⟩
theorem two_form {H H' : Array Obj} {x y : MV} {K K' t : Nat} {F : Mx} {J : Nat → Nat} (hx : LM H x 2 2 (f22 2 4 6 8) K) (hy : LM H' y 2 2 F K') (ht : t ≤ 2) (hR : RedS 2 t t 2 (mxOf x 2 2) F J) : LM H' y 2 2 (f22 2 0 0 4) K' := by
  have hw := Det.wake_form ht hR (fun q => two_row hx (by decide) q) (fun q => two_row hx (by decide) q)
  refine LM.congrX hy fun i j hi hj => ?_
  have e1 : i = 0 ∨ i = 1 := by omega
  have e2 : j = 0 ∨ j = 1 := by omega
  rcases e1 with rfl | rfl <;> rcases e2 with rfl | rfl
  · exact hw.1
  · exact hw.2.1
  · exact hw.2.2.1
  · exact hw.2.2.2
set_option maxRecDepth 100000 in
set_option maxHeartbeats 8000000 in
theorem twakes_ok (w : World) : Cl Tryz.prog 4 #[] w (YesM w) := by
  refine enter Tryz.func4 rfl rfl rfl ?_
  have hF := Fr.refl w
  repeat' (first | (refine TL.isOp ?_; first | (refine TL.isG ?_; first | refine TL.grun rfl rfl rfl ?_) | (refine TL.isCall ?_; refine TL.call rfl rfl ?_; first | (refine (tword_z _ 2 2 rfl (by omega) (by omega)).mono ?_; rintro _ w1 ⟨x2, rfl, hL, hE, n2⟩; replace hF := Fr.addLI (hF.exts hE) hL; clear hE hL; refine Back.mk ?_) | (refine (tword_z _ 4 4 rfl (by omega) (by omega)).mono ?_; rintro _ w1 ⟨x4, rfl, hL, hE, n4⟩; replace hF := Fr.addLI (hF.exts hE) hL; clear hE hL; refine Back.mk ?_) | (refine (tsame_ok _ y ⟨2, 2, some ⟨b9, 0, none⟩, 4, 4, [x2, nought, nought, x4]⟩ 2 2 30000 1 (f22 2 0 0 4) (Fr.lm hF (by repeat (first | exact memH | apply memT))) (Fr.lm hF (by repeat (first | exact memH | apply memT))) (by decide)).mono ?_; rintro _ w6 ⟨rfl, hE⟩; replace hF := hF.exts hE; clear hE; refine Back.mk ?_) | (refine (ttwo_ok _).mono ?_; rintro _ w3 ⟨x, rfl, hLx, hE, hMx⟩; replace hF := Fr.addLM hF hE hLx hMx; clear hE hMx; refine Back.mk ?_) | (refine (hform_ok _ x 2 2 1 30000 64 (Fr.lm hF (by repeat (first | exact memH | apply memT))).gm (by decide) (by decide) (by decide) (by decide)).mono ?_; rintro _ w4 ⟨y, F, t, J, rfl, hLy, ht, hRd, hE, hMf⟩; have hLz := two_form hLx hLy ht hRd; replace hF := Fr.addLM hF hE hLz hMf; clear hE hMf hLy hLz hRd; refine Back.mk ?_)) | (apply TL.ev; (case hd => rfl); (case h => (first | exact ev_simple rfl))) | (refine TL.storeAFr hF rfl rfl rfl rfl (by refine ⟨?_, ?_⟩; (focus (repeat (first | apply SetV.head | apply SetV.tail))); rfl) rfl ?_; clear hF; intro ws hF) | (refine TL.buildXs hF (f := ivc) (d := 16) [x2, nought, nought, x4] [.tmp 12, .tmp 13, .tmp 14, .tmp 15] rfl rfl rfl rfl (fun _ _ => rfl) rfl rfl (by omega) (by omega) ?_; intro w9 b9 hFn hEn hbn hSn; have hLm := lm22 hSn ((Fr.li hF (z := 2) (x := x2) (by repeat (first | exact memH | apply memT))).ext hEn) (li_nt _) (li_nt _) ((Fr.li hF (z := 4) (x := x4) (by repeat (first | exact memH | apply memT))).ext hEn) n2 (Nat.zero_le _) (Nat.zero_le _) n4; replace hF := Fr.addLM hF hEn hLm (.inr ⟨b9, rfl, hbn⟩); clear hFn hEn hbn hSn hLm) | (refine TL.allocFr hF rfl rfl ?_; clear hF; intro wa ba hF)) | (refine TF.is ?_; first | refine TF.nil ?_ | refine TF.e rfl ?_ | (refine TF.pick rfl ?_; first | (refine TFo.cmpG rfl rfl rfl rfl (fun hc => ?_) (fun hc => ?_) <;> (try (first | (exfalso; omega) | exact absurd rfl hc))) | (apply TFo.ev; (case hd => rfl); (case h => (intro wh hF; first | exact ev_simple rfl))) | (apply TFo.evg rfl rfl rfl; (case hd => rfl); (case h => (intro wh hF; first | (apply Ev.isLoad; first | exact ev_loadAFr hF rfl (by refine ⟨?_, ?_⟩; (focus (repeat (first | exact InV.head | apply InV.tail))); rfl)) | exact ev_buildX rfl rfl))))) | (refine T.is ?_; first | refine T.seq ?_ | refine T.region ?_ | refine T.ret ?_ | (refine T.regionFr hF 2 13 (.s 0 (.s 1 (.s 2 (.s 3 (.s 5 (.s 6 (.e 4 (.e 7 (.e 8 (.s 9 (.e 10 (.s 11 (.s 12 .nil))))))))))))) mixed (by kernel_rfl) ?_; clear hF; intro wr hF)) | (refine G.is ?_; first | refine G.next ?_ | refine G.only ?_ | refine G.tree rfl (by first | exact hF | exact hF.weak (List.sublist_append_right _ _) (by repeat (first | exact allR | apply allT)) | exact hF.weak (by repeat (first | exact List.Sublist.refl _ | apply List.Sublist.cons)) (by repeat (first | exact allR | apply allT)) | exact hF.weak (by repeat (first | exact List.Sublist.refl _ | apply List.Sublist.cons)) (by repeat (first | exact allN | refine allH (by repeat (first | exact memH | apply memT)) ?_))) ?_) | refine TL.nil ?_)
  all_goals exact G.ret1 rfl rfl ⟨rfl, hF.ext⟩
end Go.Proofs.YthlbihbchobllaaGreat

namespace Go.Det
theorem wide_bd {r c : Nat} {A : Mx} {e : Nat} (h : ∀ i q, Bd (2 ^ e) (A i q)) : ∀ i q, Bd (2 ^ e) (Go.Proofs.YthlbihbchobllaaGreat.wideOf A r c i q) := fun i q => by
  have hp := two_pow_pos e
  unfold Go.Proofs.YthlbihbchobllaaGreat.wideOf
  split
  · exact h i q
  · split
    · exact ⟨by omega, by omega⟩
    · exact ⟨by omega, by omega⟩
theorem bd_abs {a K : Nat} {z : Int} (h : Bd (2 ^ a - 1) z) (hK : a ≤ 64 * K) : z.natAbs < Go.Proofs.YthlbihbchobllaaGreat.WB ^ K := by
  have h1 : (2 : Int) ^ a ≤ 2 ^ (64 * K) := two_pow_le hK
  have h2 := Go.Proofs.YthlbihbchobllaaGreat.wb_pow K
  obtain ⟨h3, h4⟩ := h
  omega
theorem RedS.bd {r c e K : Nat} {A G : Mx} {J : Nat → Nat} (h : Go.Proofs.YthlbihbchobllaaGreat.RedS r r r (c + r) (Go.Proofs.YthlbihbchobllaaGreat.wideOf A r c) G J) (hA : ∀ i q, Bd (2 ^ e) (A i q)) (hr : r ≤ 64) (hK : aB e ≤ 64 * K) : ∀ p q, p < r → (G p q).natAbs < Go.Proofs.YthlbihbchobllaaGreat.WB ^ K := fun p q hp => by
  have hl := h.lat
  rw [show r + (r - r) = r by omega] at hl
  exact bd_abs (hl.bd h.ech h.red (wide_bd hA) hr p q hp) hK
theorem RedS.hermP {r c : Nat} {A G : Mx} {J : Nat → Nat} {w : Nat} (h : Go.Proofs.YthlbihbchobllaaGreat.RedS r r r w A G J) : HermP r c G J := fun i hi => herm_left h.ech h.red hi
end Go.Det
namespace Go.Proofs.YthlbihbchobllaaGreat
open Go Go.Eng Go.Proofs Go.NatM Go.RowKit Go.Det
theorem hfull_bad (w : World) (x : MV) (hx : InR x) (hn : ¬ ∃ r c, Sound x r c) : Cl Tryz.prog 5 #[.agg (mvc x).toArray] w (fun e w' => e = .returned (.tuple #[.agg #[.int .i64 0, .int .i64 0, .slice none 0 0, .int .i64 0, .int .i64 0, .slice none 0 0, .int .i64 0, .int .i64 0, .slice none 0 0], .int .i64 1]) ∧ Ext w w') := by
  have hck := fun w1 => chk_bad w1 x hx hn
  obtain ⟨xr, xc, A, n, k, l⟩ := x
  refine enter Tryz.func5 rfl rfl rfl ?_
  have hF := Fr.refl w
  repeat' (first | (refine TL.isOp ?_; first | (refine TL.isCall ?_; refine TL.call rfl rfl ?_; first | (refine (hck _).mono ?_; rintro _ w3 ⟨rfl, hE⟩; replace hF := hF.exts hE; clear hE; refine Back.mk ?_)) | (refine TL.isBin ?_; refine TL.cmpG rfl rfl rfl rfl (fun hc => ?_) (fun hc => ?_) <;> (try (first | (exfalso; omega) | exact absurd rfl hc))) | (apply TL.ev; (case hd => rfl); (case h => (first | exact ev_simple rfl | (apply Ev.isLoad; first | exact ev_loadAFr hF rfl (by refine ⟨?_, ?_⟩; (focus (repeat (first | exact InV.head | apply InV.tail))); rfl)) | exact ev_buildX rfl rfl))) | (refine TL.storeAFr hF rfl rfl rfl rfl (by refine ⟨?_, ?_⟩; (focus (repeat (first | apply SetV.head | apply SetV.tail))); rfl) rfl ?_; clear hF; intro ws hF) | (refine TL.boxAFr hF (d := 1) (cs := [.int .i64 xr, .int .i64 xc, .slice A n k]) rfl rfl ?_; clear hF; intro w1 b1 hF) | (refine TL.allocFr hF (d := 2) rfl rfl ?_; clear hF; intro w2 b2 hF)) | (refine T.is ?_; first | refine T.seq ?_ | refine T.region ?_ | refine T.cond_t rfl ?_ | refine T.ret ?_) | (refine G.is ?_; first | refine G.next ?_ | refine G.thenR ?_) | refine TL.nil ?_)
  exact G.retC2 rfl rfl rfl (held_agg (hF.var (b := b2) (by repeat (first | exact InV.head | apply InV.tail))) rfl) ⟨rfl, hF.ext⟩
theorem lm_sum' {H H1 H2 : Array Obj} {x y z : MV} {r c K K1 K2 : Nat} {A B : Nat → Nat → Int} (h : LM H x r c (fun i j => psum (fun q => ent y r i q * ent z c q j) r) K) (hy : LM H1 y r r A K1) (hz : LM H2 z r c B K2) {F : Nat → Nat → Int} (e : ∀ i j, i < r → j < c → sm (fun q => A i q * B q j) r = F i j) : LM H x r c F K :=
  LM.congrX h fun i j hi hj => by rw [← e i j hi hj, psum_is]; exact sm_congr fun q hq => by rw [hy.ent hi hq, hz.ent hq hj]
theorem CpM.ent {x y : MV} {r c i q : Nat} (h : CpM x y) (hs : Sound x r c) (hi : i < r) (hq : q < c) : ent y c i q = ent x c i q := h.e _ (by rw [hs.n]; exact place_lt hi hq)
theorem CpM.inR {x y : MV} (h : CpM x y) (hx : InR x) : InR y := ⟨by rw [h.r]; exact hx.r, by rw [h.c]; exact hx.c⟩
theorem CpM.mx {x y : MV} {r c : Nat} (h : CpM x y) (hs : Sound x r c) : mxOf y r c = mxOf x r c := by
  funext i q
  unfold mxOf
  split
  · rename_i h1; exact h.ent hs h1.1 h1.2
  · rfl
set_option maxRecDepth 100000 in
set_option maxHeartbeats 8000000 in
theorem wherm_bad (w : World) (x : MV) (hx : (RM w.heap x 1048576 ∧ InR x) ∧ x.n ≤ 1048576) (hn : ¬ ∃ r c, Sound x r c) : Cl Tryz.prog 3 #[.agg (mvc x).toArray] w (YesM w) := by
  have hcp := fun w1 (hE : Ext w w1) => copyMat_ok w1 x 1048576 ⟨(hx.1.1.s.ext hE).size, fun y hy => ⟨(hx.1.1.g y hy).1.ext hE, (hx.1.1.g y hy).2⟩⟩ hx.2 (by decide)
  have hsd := fun w1 => tsound_f w1 x (fun r c h => hn ⟨r, c, h⟩)
  have hfl := fun w1 (y : MV) (h : CpM x y) => hfull_bad w1 y (h.inR hx.1.2) (fun ⟨r, c, k⟩ => hn ⟨r, c, (h.sound r c).1 k⟩)
  obtain ⟨xr, xc, A, n, k, l⟩ := x
  refine enter Tryz.func3 rfl rfl rfl ?_
  have hF := Fr.refl w
  repeat' (first | (refine TL.isOp ?_; first | (refine TL.isCall ?_; refine TL.call rfl rfl ?_; first | (refine (twakes_ok _).mono ?_; rintro _ w3 ⟨rfl, hE⟩; replace hF := hF.exts hE; clear hE; refine Back.mk ?_) | (refine (hcp _ hF.ext).mono ?_; rintro _ w3 ⟨y, rfl, hRy, hCy, hE, hMy⟩; replace hF := hF.exts hE; clear hE; refine Back.mk ?_) | (refine (hfl _ y hCy).mono ?_; rintro _ w3 ⟨rfl, hE⟩; replace hF := hF.exts hE; clear hE; refine Back.mk ?_) | (refine (hsd _).mono ?_; rintro _ w3 ⟨rfl, hE⟩; replace hF := hF.exts hE; clear hE; refine Back.mk ?_)) | (refine TL.isBin ?_; refine TL.cmpG rfl rfl rfl rfl (fun hc => ?_) (fun hc => ?_) <;> (try (first | (exfalso; omega) | exact absurd rfl hc))) | (apply TL.ev; (case hd => rfl); (case h => (first | exact ev_simple rfl | (apply Ev.isLoad; first | exact ev_loadAFr hF rfl (by refine ⟨?_, ?_⟩; (focus (repeat (first | exact InV.head | apply InV.tail))); rfl))))) | (refine TL.storeAFr hF rfl rfl rfl rfl (by refine ⟨?_, ?_⟩; (focus (repeat (first | apply SetV.head | apply SetV.tail))); rfl) rfl ?_; clear hF; intro ws hF) | (refine TL.boxAFr hF (d := 1) (cs := [.int .i64 xr, .int .i64 xc, .slice A n k]) rfl rfl ?_; clear hF; intro w1 b1 hF) | (refine TL.allocFr hF rfl rfl ?_; clear hF; intro wa ba hF)) | (refine T.is ?_; first | refine T.seq ?_ | refine T.region ?_ | refine T.cond_t rfl ?_ | refine T.cond_f rfl ?_ | refine T.ret ?_ | refine T.skip ?_) | (refine G.is ?_; first | refine G.next ?_ | refine G.thenR ?_) | refine TL.nil ?_)
  exact G.ret1 rfl rfl ⟨rfl, hF.ext⟩
end Go.Proofs.YthlbihbchobllaaGreat

namespace Go.Proofs.YthlbihbchobllaaGreat
open Go Go.Eng Go.Proofs Go.NatM Go.RowKit Go.Det
set_option maxRecDepth 100000 in
set_option maxHeartbeats 16000000 in
theorem wherm_good (w : World) (x : MV) (r c K K1 e : Nat) (hx : RM w.heap x 1048576) (hs : Sound x r c) (hK : K ≤ 4398046511000) (h0 : 1048576 ≤ K) (h64 : 64 * 1048576 ≤ e) (he : xB e + 6 < K) (hK1 : K1 ≤ 1099511627776) (ha : aB e ≤ 64 * K1) : Cl Tryz.prog 3 #[.agg (mvc x).toArray] w (YesM w) := by
  have hr := hs.r64
  have hc64 := hs.c64
  have hnn : x.n ≤ 4096 := by rw [hs.n]; exact mul64 hr hc64
  have hcp := fun w1 (hE : Ext w w1) => copyMat_ok w1 x 1048576 ⟨(hx.s.ext hE).size, fun y hy => ⟨(hx.g y hy).1.ext hE, (hx.g y hy).2⟩⟩ (by omega) (by decide)
  have hsd := fun w1 => tsound_t w1 x r c hs
  have hfl := fun w1 (y : MV) (hR : RM w1.heap y 1048576) (h : CpM x y) => hfull_ok w1 y r c 1048576 K e (hR.gm ((h.sound r c).2 hs)) h0 (by decide) hK h64 he
  have hA : ∀ i q, Bd (2 ^ e) (mxOf x r c i q) := mxOf_bd (hx.gm hs) h64
  have hmx := fun y (h : CpM x y) => h.mx hs
  have hent := fun (y : MV) (h : CpM x y) i q (hi : i < r) (hq : q < c) => (h.ent hs hi hq).trans (mxOf_in (x := x) hi hq).symm
  have hsy := fun (y : MV) (h : CpM x y) => (h.sound r c).2 hs
  obtain ⟨Am, hAe⟩ : ∃ A, mxOf x r c = A := ⟨_, rfl⟩
  simp only [hAe] at hA hmx hent
  clear hx
  obtain ⟨xr, xc, A, n, k, l⟩ := x
  obtain ⟨b1', b2', _, _, b5'⟩ := hs
  dsimp only at b1' b2' b5'
  subst b1' b2' b5'
  refine enter Tryz.func3 rfl rfl rfl ?_
  have hF := Fr.refl w
  repeat' (first | (refine TL.isOp ?_; first | (refine TL.isCall ?_; refine TL.call rfl rfl ?_; first | (refine (twakes_ok _).mono ?_; rintro _ w3 ⟨rfl, hE⟩; replace hF := hF.exts hE; clear hE; refine Back.mk ?_) | (refine (hcp _ hF.ext).mono ?_; rintro _ w3 ⟨y, rfl, hRy, hCy, hE, hMy⟩; replace hF := hF.exts hE; clear hE; refine Back.mk ?_) | (refine (hfl _ y hRy hCy).mono ?_; rintro _ w4 ⟨⟨ar, ac, aA, an, ak, al⟩, ⟨ur, uc, uA, un, uk, ul⟩, ⟨vr, vc, vA, vn, vk, vl⟩, Gz, V, J, rfl, hLh, hLu, hLv, hWd, hRd, hE⟩; rw [hmx y hCy] at hWd hRd; have hsa := hLh.sh; have hsu := hLu.sh; have hsv := hLv.sh; have hd1 : ar = (r : Int) := hsa.er; have hd2 : ac = (c : Int) := hsa.ec; have hd3 : an = r * c := hsa.n; have hd4 : ur = (r : Int) := hsu.er; have hd5 : uc = (r : Int) := hsu.ec; have hd6 : un = r * r := hsu.n; have hd7 : vr = (r : Int) := hsv.er; have hd8 : vc = (r : Int) := hsv.ec; have hd9 : vn = r * r := hsv.n; subst hd1 hd2 hd3 hd4 hd5 hd6 hd7 hd8 hd9; have hV1 := (hF.exts hE).var (b := b1) (by repeat (first | exact InV.head | apply InV.tail)); have hE0 : Ext w w4 := hF.ext.trans hE; clear hF hRy hCy hMy hE; have hF := Fr.refl w4; refine Back.mk ?_)) | (apply TL.ev; (case hd => rfl); (case h => (first | exact ev_simple rfl | (apply Ev.isLoad; first | exact ev_loadAFr hF rfl (by refine ⟨?_, ?_⟩; (focus (repeat (first | exact InV.head | apply InV.tail))); rfl) | exact ev_loadVA rfl (hV1.ext hF.ext) rfl)))) | (refine TL.storeAFr hF rfl rfl rfl rfl (by refine ⟨?_, ?_⟩; (focus (repeat (first | apply SetV.head | apply SetV.tail))); rfl) rfl ?_; clear hF; intro ws hF) | (refine TL.boxAFr hF (d := 1) (cs := [.int .i64 (r : Int), .int .i64 (c : Int), .slice A (r * c) k]) rfl rfl ?_; clear hF; intro w1 b1 hF) | (refine TL.allocFr hF rfl rfl ?_; clear hF; intro wa ba hF)) | (refine T.is ?_; first | refine T.seq ?_ | refine T.region ?_ | refine T.cond_f rfl ?_ | refine T.skip ?_) | (refine G.is ?_; first | refine G.next ?_) | refine TL.nil ?_)
  dsimp only at hF
  have hHp := Det.RedS.hermP (c := c) hRd
  have hLt : LM w4.heap ⟨r, c, aA, r * c, ak, al⟩ r c Gz K1 := ⟨hLh.sh, hLh.s, fun i j hi hj => ⟨(hLh.g i j hi hj).1, (hLh.g i j hi hj).1.nle' (Det.RedS.bd hRd hA hr ha i j hi)⟩⟩
  have hs1 := fun w1 (y : MV) (hE : Ext w4 w1) (hR : RM w1.heap y 1048576) (hC : CpM ⟨r, c, A, r * c, k, l⟩ y) => (mmul_ok w1 ⟨r, r, uA, r * r, uk, ul⟩ y r r c K 1048576 (hLu.gm.ext hE) (hR.gm (hsy y hC)) (by omega) (by decide)).mono (fun e w' ⟨z, h1, hLz, h2, h3⟩ => (⟨z, h1, LM.congrX hLz (G := Gz) (fun i j hi hj => by rw [psum_is]; exact (sm_congr fun q hq => by rw [hLu.ent hi hq, hent y hC q j hq hj]).trans (hWd.left i j hi hj).symm), h2, h3⟩ : RetME w1 r c Gz (K + 1048576 + r) e w'))
  have hs2 := fun w1 (hE : Ext w4 w1) => (mmul_ok w1 ⟨r, r, uA, r * r, uk, ul⟩ ⟨r, r, vA, r * r, vk, vl⟩ r r r K K (hLu.gm.ext hE) (hLv.gm.ext hE) (by omega) (by omega)).mono (fun e w' ⟨z, h1, hLz, h2, h3⟩ => (⟨z, h1, lm_sum' hLz hLu hLv (fun i j hi hj => hWd.uw i j hi hj), h2, h3⟩ : RetME w1 r r (fun i j => if i = j then 1 else 0) (K + K + r) e w'))
  have hs3 := fun w1 (hE : Ext w4 w1) => (mmul_ok w1 ⟨r, r, vA, r * r, vk, vl⟩ ⟨r, r, uA, r * r, uk, ul⟩ r r r K K (hLv.gm.ext hE) (hLu.gm.ext hE) (by omega) (by omega)).mono (fun e w' ⟨z, h1, hLz, h2, h3⟩ => (⟨z, h1, lm_sum' hLz hLv hLu (fun i j hi hj => hWd.wu i j hi hj), h2, h3⟩ : RetME w1 r r (fun i j => if i = j then 1 else 0) (K + K + r) e w'))
  have hh := fun w1 (hE : Ext w4 w1) => thermite_ok w1 ⟨r, c, aA, r * c, ak, al⟩ r c K1 Gz J ⟨hLt.sh, (hLt.s.ext hE).size, fun i j hi hj => ⟨(hLt.g i j hi hj).1.ext hE, (hLt.g i j hi hj).2⟩⟩ hK1 hHp
  have hLhx := fun w1 (hE : Ext w4 w1) => (⟨hLh.sh, (hLh.s.ext hE).size, fun i j hi hj => ⟨(hLh.g i j hi hj).1.ext hE, (hLh.g i j hi hj).2⟩⟩ : LM w1.heap ⟨r, c, aA, r * c, ak, al⟩ r c Gz K)
  clear hLt hLu hLv hLh hHp hRd hWd hA hfl hent hmx
  repeat' (first | (refine TL.isOp ?_; first | (refine TL.isG ?_; first | refine TL.grun rfl rfl rfl ?_) | (refine TL.isCall ?_; refine TL.call rfl rfl ?_; first | (refine (hsd _).mono ?_; rintro _ w5 ⟨rfl, hE⟩; replace hF := hF.exts hE; clear hE; refine Back.mk ?_) | (refine (tsound_t _ ⟨r, c, aA, r * c, ak, al⟩ r c hsa).mono ?_; rintro _ w5 ⟨rfl, hE⟩; replace hF := hF.exts hE; clear hE; refine Back.mk ?_) | (refine (hcp _ (hE0.trans hF.ext)).mono ?_; rintro _ w3 ⟨yy, rfl, hRy, hCy, hE, hMy⟩; replace hF := Fr.addRM hF hE hRy hMy; clear hE hRy hMy; refine Back.mk ?_) | (refine (hs1 _ yy hF.ext (Fr.rm hF (by repeat (first | exact memH | apply memT))) hCy).mono ?_; rintro _ w5 ⟨z1, rfl, hL, hE, hM⟩; replace hF := Fr.addLM hF hE hL hM; clear hE hL hM; refine Back.mk ?_) | (refine (hs2 _ hF.ext).mono ?_; rintro _ w5 ⟨z2, rfl, hL, hE, hM⟩; replace hF := Fr.addLM hF hE hL hM; clear hE hL hM; refine Back.mk ?_) | (refine (hs3 _ hF.ext).mono ?_; rintro _ w5 ⟨z3, rfl, hL, hE, hM⟩; replace hF := Fr.addLM hF hE hL hM; clear hE hL hM; refine Back.mk ?_) | (refine (hh _ hF.ext).mono ?_; rintro _ w5 ⟨hn, rfl, hE⟩; replace hF := hF.exts hE; clear hE; refine Back.mk ?_) | (refine (tunit_ok _ r hr).mono ?_; rintro _ w5 ⟨zu, rfl, hL, hE, hM⟩; replace hF := Fr.addLM hF hE hL hM; clear hE hL hM; refine Back.mk ?_) | (refine (tsame_ok _ z1 ⟨r, c, aA, r * c, ak, al⟩ r c (K + 1048576 + r) K Gz (Fr.lm hF (by repeat (first | exact memH | apply memT))) (hLhx _ hF.ext) (by omega)).mono ?_; rintro _ w6 ⟨rfl, hE⟩; replace hF := hF.exts hE; clear hE; refine Back.mk ?_) | (refine (tsame_ok _ z2 zu r r (K + K + r) 1 (fun i j => if i = j then 1 else 0) (Fr.lm hF (by repeat (first | exact memH | apply memT))) (Fr.lm hF (by repeat (first | exact memH | apply memT))) (by omega)).mono ?_; rintro _ w6 ⟨rfl, hE⟩; replace hF := hF.exts hE; clear hE; refine Back.mk ?_) | (refine (tsame_ok _ z3 zu r r (K + K + r) 1 (fun i j => if i = j then 1 else 0) (Fr.lm hF (by repeat (first | exact memH | apply memT))) (Fr.lm hF (by repeat (first | exact memH | apply memT))) (by omega)).mono ?_; rintro _ w6 ⟨rfl, hE⟩; replace hF := hF.exts hE; clear hE; refine Back.mk ?_)) | (refine TL.isBin ?_; refine TL.cmpG rfl rfl rfl rfl (fun hc => ?_) (fun hc => ?_) <;> (try (first | (exfalso; omega) | exact absurd rfl hc))) | (apply TL.ev; (case hd => rfl); (case h => (first | exact ev_simple rfl | (apply Ev.isLoad; first | exact ev_loadFr hF rfl (by refine ⟨?_, ?_⟩; (focus (repeat (first | exact InV.head | apply InV.tail))); rfl) | exact ev_loadAFr hF rfl (by refine ⟨?_, ?_⟩; (focus (repeat (first | exact InV.head | apply InV.tail))); rfl) | exact ev_loadV rfl (hV1.ext hF.ext) rfl) | exact ev_fieldAddr rfl))) | (refine TL.storeAFr hF rfl rfl rfl rfl (by refine ⟨?_, ?_⟩; (focus (repeat (first | apply SetV.head | apply SetV.tail))); rfl) rfl ?_; clear hF; intro ws hF) | (refine TL.allocFr hF rfl rfl ?_; clear hF; intro wa ba hF)) | (refine TF.is ?_; first | refine TF.nil ?_ | refine TF.e rfl ?_ | refine TF.alt ?_ ?_ | (refine TF.pick rfl ?_; first | (refine TFo.cmpG rfl rfl rfl rfl (fun hc => ?_) (fun hc => ?_) <;> (try (first | (exfalso; omega) | exact absurd rfl hc))) | (refine TFo.cmpGg rfl rfl rfl rfl rfl rfl rfl (fun hc => ?_) (fun hc => ?_) <;> (try (first | (exfalso; omega) | exact absurd rfl hc))) | (apply TFo.ev; (case hd => rfl); (case h => (intro wh hF; first | exact ev_simple rfl | (apply Ev.isLoad; first | exact ev_loadAFr hF rfl (by refine ⟨?_, ?_⟩; (focus (repeat (first | exact InV.head | apply InV.tail))); rfl) | exact ev_loadVA rfl (hV1.ext hF.ext) rfl) | exact ev_fieldAddr rfl))) | (apply TFo.evg rfl rfl rfl; (case hd => rfl); (case h => (intro wh hF; first | exact ev_simple rfl | (apply Ev.isLoad; first | exact ev_loadAFr hF rfl (by refine ⟨?_, ?_⟩; (focus (repeat (first | exact InV.head | apply InV.tail))); rfl) | exact ev_loadV rfl (hV1.ext hF.ext) rfl) | exact ev_fieldAddr rfl))))) | (refine T.is ?_; first | refine T.seq ?_ | refine T.region ?_ | refine T.cond_f rfl ?_ | refine T.ret ?_ | refine T.skip ?_ | (refine T.regionFr hF 8 11 (.s 0 (.s 1 (.s 2 (.alt (.e 3 (.alt (.e 4 (.s 5 (.s 6 (.s 7 (.e 8 (.e 9 (.s 10 .nil))))))) (.e 8 (.e 4 (.s 5 (.s 6 (.s 7 (.e 9 (.s 10 .nil))))))))) (.e 8 (.e 3 (.e 4 (.s 5 (.s 6 (.s 7 (.e 9 (.s 10 .nil)))))))))))) mixed (by kernel_rfl) ?_; clear hF; intro wr hF) | (refine T.regionFr hF 12 34 (.s 0 (.s 1 (.s 2 (.s 3 (.s 4 (.s 5 (.s 6 (.s 7 (.s 8 (.s 9 (.s 10 (.s 11 (.s 12 (.s 13 (.s 14 (.s 15 (.s 16 (.e 17 (.s 18 (.s 19 (.s 20 (.s 21 (.s 22 (.e 23 (.e 24 (.s 25 (.s 26 (.s 27 (.s 28 (.s 29 (.e 30 (.e 31 (.s 32 (.s 33 .nil)))))))))))))))))))))))))))))))))) mixed (by kernel_rfl) ?_; clear hF; intro wr hF)) | (refine G.is ?_; first | refine G.next ?_ | refine G.only ?_ | refine G.tree rfl (by first | exact hF | exact hF.weak (List.sublist_append_right _ _) (by repeat (first | exact allR | apply allT)) | exact hF.weak (by repeat (first | exact List.Sublist.refl _ | apply List.Sublist.cons)) (by repeat (first | exact allR | apply allT)) | exact hF.weak (by repeat (first | exact List.Sublist.refl _ | apply List.Sublist.cons)) (by repeat (first | exact allN | refine allH (by repeat (first | exact memH | apply memT)) ?_))) ?_) | refine TL.nil ?_)
  all_goals exact G.ret1 rfl rfl ⟨rfl, hE0.trans hF.ext⟩
theorem wherm_t (w : World) (x : MV) (hx : (RM w.heap x 1048576 ∧ InR x) ∧ x.n ≤ 1048576) : Cl Tryz.prog 3 #[.agg (mvc x).toArray] w (YesM w) := by
  by_cases h : ∃ r c, Sound x r c
  · obtain ⟨r, c, hs⟩ := h
    obtain ⟨e, he⟩ : ∃ e, e = 67108864 := ⟨_, rfl⟩
    obtain ⟨K1, hK1⟩ : ∃ K1, K1 = 1099511627776 := ⟨_, rfl⟩
    exact wherm_good w x r c 4398046511000 K1 e hx.1.1 hs (by decide) (by decide) (by omega) (by unfold xB aB; omega) (by omega) (by unfold aB; omega)
  · exact wherm_bad w x hx h
end Go.Proofs.YthlbihbchobllaaGreat

namespace Go.Proofs.YthlbihbchobllaaGreat
open Go Go.Eng Go.Proofs Go.NatM Go.ChangeShapes Go.WideShapes Go.ChangeAt Go.RowKit Go.Deep

set_option maxRecDepth 10000 in
theorem open_matcT {H : Type} {enc : TypeId × Value → H} {W : World} {base : Nat} {spare : Nat → Bool} {held : Bool} (m : Nat) (cs : List Value) (x : DataW H × List MemPlace)
    (h : DataW.trod enc Tryz.prog W base spare held m 24 cs = some x) : ∃ y : MV, cs = mvc y ∧ (RM0 W.heap y ∧ InR y) ∧ wts ivw y.l + y.n ≤ 2 * Rows.uptoBulk x.1 ∧ wts ivw y.l ≤ Rows.uptoBulk x.1 ∧ y.n ≤ Rows.uptoBulk x.1 := by
  obtain ⟨xs, q, _, rfl, hl, hxl, hall⟩ := DataW.trod_struct Tryz.underlying24 h
  have hl' : cs.length = 3 := hl.trans (by kernel_rfl)
  have hxl' : xs.length = 3 := hxl.trans rfl
  obtain ⟨v0, v1, v2, rfl⟩ := len3 hl'
  obtain ⟨x0, x1, x2, rfl⟩ := len3 hxl'
  have ci : Tryz.prog.cellsOf 3 = 1 := by kernel_rfl
  have cl : Tryz.prog.cellsOf 22 = 1 := by kernel_rfl
  have h0 : DataW.trod enc Tryz.prog W base spare held q 3 (([v0, v1, v2].drop 0).take (Tryz.prog.cellsOf 3)) = some x0 := hall 0 _ rfl
  rw [ci] at h0
  have h1 : DataW.trod enc Tryz.prog W base spare held q 3 (([v0, v1, v2].drop 1).take (Tryz.prog.cellsOf 3)) = some x1 := hall 1 _ rfl
  rw [ci] at h1
  have h2 : DataW.trod enc Tryz.prog W base spare held q 22 (([v0, v1, v2].drop 2).take (Tryz.prog.cellsOf 22)) = some x2 := hall 2 _ rfl
  rw [cl] at h2
  obtain ⟨z0, e0, b0⟩ := open_i64c Tryz.underlying3 h0
  obtain rfl : v0 = .int .i64 z0 := by simpa using e0
  obtain ⟨z1, e1, b1⟩ := open_i64c Tryz.underlying3 h1
  obtain rfl : v1 = .int .i64 z1 := by simpa using e1
  obtain ⟨A, n, c, L, e2, s2, g2, m2, m3⟩ := open_elems ivc (GI W.heap) ivw (show 0 < 2 by omega) (fun _ => rfl) Tryz.underlying22 (by kernel_rfl) (fun m cs x h => open_int m cs x h) h2
  obtain rfl : v2 = .slice A n c := by simpa using e2
  refine ⟨⟨z0, z1, A, n, c, L⟩, rfl, ⟨⟨s2, g2⟩, b0, b1⟩, ?_⟩
  simp only [List.map_cons, List.map_nil, Rows.uptoBulk, Rows.uptoBulkAll]
  omega
set_option maxRecDepth 10000 in
theorem open_matT {H : Type} {enc : TypeId × Value → H} {W : World} {base base' : Nat} {spare : Nat → Bool} {held : Bool} {v : Value} {d : DataW H} {ps : List MemPlace}
    (hv : Value.okWide Tryz.prog W .any base' 24 v) (h : DataW.Trod enc Tryz.prog W base spare held 24 v d ps) :
    ∃ y : MV, v = .agg (mvc y).toArray ∧ (RM0 W.heap y ∧ InR y) ∧ (wts ivw y.l ≤ Rows.uptoBulk d ∧ y.n ≤ Rows.uptoBulk d) := by
  obtain ⟨cs, rfl, _⟩ := okWide_struct Tryz.underlying24 hv
  obtain ⟨fuel, hf⟩ := h
  obtain ⟨y, e, r, _, m⟩ := open_matcT fuel _ (d, ps) hf
  have e' : cs.toList = mvc y := e
  refine ⟨y, ?_, r, m⟩
  rw [← e']
theorem small_matT {H : Array Obj} {y : MV} {b : Nat} (h : b ≤ 1048576) (r : RM0 H y ∧ InR y) (hn : wts ivw y.l ≤ b ∧ y.n ≤ b) : (RM H y 1048576 ∧ InR y) ∧ y.n ≤ 1048576 := ⟨⟨small_mat h r.1 hn.1, r.2⟩, by omega⟩
end Go.Proofs.YthlbihbchobllaaGreat
