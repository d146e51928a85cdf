/- Integers' words in blocks of their own: product, Mul, Zero. Layer 10: grids whose integers' words lie in blocks of P: Of, Set, AddRow. Layer 10: AddRow, its new words in new blocks. Layer 10: Get, Places, Dense: the answers' words in blocks of their own. Layer 10: two rows of a dense matrix changed: the law's dense by mat.Pick; every change. -/
import Derived.Test.YtlpheckjogphmaaGreatPz10
import Derived.Test.YtlpheckjogphmaaGreatPz8
import Derived.Test.YtlpheckjogphmaaGreatPz9
set_option maxHeartbeats 8000000
set_option linter.unusedVariables false
set_option linter.unusedSimpArgs false
set_option linter.unusedSectionVars false
namespace Go.Proofs.YtlpheckjogphmaaGreat
open Go Go.Eng Go.Proofs Go.NatM Go.RowKit
theorem Ow.nilP (H : Array Obj) (lo : Nat) : Ow u64v H lo 64 none 0 0 [] := by unfold Ow; exact ⟨rfl, .inl ⟨rfl, rfl, rfl⟩⟩
theorem OwL.z (H : Array Obj) (lo : Nat) : OwL H lo [⟨false, ⟨none, 0, 0, []⟩⟩] := ⟨fun x hx => by rw [List.mem_singleton] at hx; subst hx; exact Ow.nilP _ _, List.pairwise_singleton _ _⟩
theorem OwL.of1 {H : Array Obj} {lo : Nat} {x : IV} (h : Ow u64v H lo 64 x.m.A x.m.n x.m.c x.m.l) : OwL H lo [x] := ⟨fun y hy => by rw [List.mem_singleton] at hy; subst hy; exact h, List.pairwise_singleton _ _⟩
theorem OwL.mono {H : Array Obj} {lo lo' : Nat} {l : List IV} (h : OwL H lo l) (hl : lo' ≤ lo) : OwL H lo' l := ⟨fun x hx => (h.1 x hx).mono hl, h.2⟩
theorem OwL.perm {H : Array Obj} {lo : Nat} {l l' : List IV} (h : OwL H lo l) (hp : l.Perm l') : OwL H lo l' := ⟨fun x hx => h.1 x (hp.mem_iff.2 hx), (hp.pairwise_iff (fun {a b} h k h1 h2 => h k h2 h1)).1 h.2⟩
theorem OwL.blt {H : Array Obj} {lo : Nat} {l : List IV} (h : OwL H lo l) {x : IV} (hx : x ∈ l) {k : Nat} (hk : blk x.m.A k) : k < H.size := (h.1 x hx).bltZ hk
theorem OwL.lo {H : Array Obj} {lo : Nat} {l : List IV} (h : OwL H lo l) {x : IV} (hx : x ∈ l) {k : Nat} (hk : blk x.m.A k) : lo ≤ k := (h.1 x hx).loZ hk
theorem OwL.app {H H' : Array Obj} {lo lo' : Nat} {l l' : List IV} (h : OwL H' lo l) (h' : OwL H' lo' l') (h0 : OwL H lo l) (hl : H.size ≤ lo') (hlo : lo ≤ lo') : OwL H' lo (l ++ l') :=
  ⟨fun x hx => (List.mem_append.1 hx).elim (h.1 x) fun hx => (h'.1 x hx).mono hlo, List.pairwise_append.2 ⟨h.2, h'.2, fun x hx y hy k h1 h2 => by
    have a := h0.blt hx h1
    have b := h'.lo hy h2
    omega⟩⟩
theorem OwL.eqv {H H' : Array Obj} {lo : Nat} {l : List IV} (h : OwL H lo l) (he : ∀ x ∈ l, ∀ k, blk x.m.A k → k < H.size → H'[k]? = H[k]?) : OwL H' lo l :=
  ⟨fun x hx => by
    have h1 := h.1 x hx
    have h2 := he x hx
    unfold Ow at h1 ⊢
    refine ⟨h1.1, h1.2.imp id ?_⟩
    rintro ⟨g, cur, e, hlo, hg, r⟩
    exact ⟨g, cur, e, hlo, (h2 g e (Array.getElem?_eq_some_iff.1 hg).1).trans hg, r⟩, h.2⟩
end Go.Proofs.YtlpheckjogphmaaGreat
namespace Go.Eng
open Go Go.Proofs Go.NatM Go.RowKit Go.Proofs.YtlpheckjogphmaaGreat
def dpOwL (lo : Nat) (l : List IV) : DP := ⟨fun H => OwL H lo l, fun k => ∃ x ∈ l, blk x.m.A k, fun _ _ h hk => by obtain ⟨x, hx, hk⟩ := hk; exact h.blt hx hk, fun H H' hd h => h.eqv fun x hx k hk hl => by
  have h1 := h.1 x hx
  unfold Ow at h1
  rcases h1.2 with ⟨e, _⟩ | ⟨g, cur, e, _, hg, _⟩
  · rw [e] at hk; cases hk
  · rw [e] at hk; cases hk
    exact hd.block _ _ _ _ hg (.inl ⟨x, hx, e⟩)⟩
section
variable {S : Nat → Prop} {w0 w w' : World} {L : List VB} {D : List DP} {lo : Nat} {l : List IV}
theorem Fr.owL (h : Fr w0 w L D S) (hm : dpOwL lo l ∈ D) : OwL w.heap lo l := by have := h.data _ hm; unfold dpOwL at this; exact this
theorem Fr.addOwL (h : Fr w0 w L D S) (hO : OwL w.heap lo l) (ht : (L.all fun v => !(v.t == 64)) = true := by rfl) : Fr w0 w L (dpOwL lo l :: D) S :=
  h.add _ (by unfold dpOwL; exact hO) fun v hv hk => by
    unfold dpOwL at hk
    obtain ⟨x, hx, hk⟩ := hk
    have h1 := List.all_eq_true.1 ht v hv
    exact ty_ne (fun e => by rw [e] at h1; simp at h1) (Ow.ty (hO.1 x hx) hk) (Vr.ty (h.vars v hv).2)
theorem owL_notmap {H : Array Obj} (hO : OwL H lo l) {m : Nat} {o : Obj} (hm : H[m]? = some o) (ho : o.isCells = false) : ∀ x ∈ l, ¬ blk x.m.A m := fun x hx hk => by
  obtain ⟨cur, h⟩ := Ow.ty (hO.1 x hx) hk
  rw [hm] at h
  cases h
  cases ho
theorem nf_owL {m : Nat} (h : ∀ x ∈ l, ¬ blk x.m.A m) : ¬ (dpOwL lo l).fp m := by unfold dpOwL; exact fun ⟨x, hx, hk⟩ => h x hx hk
end
end Go.Eng
namespace Go.Proofs.YtlpheckjogphmaaGreat
open Go Go.Eng Go.Proofs Go.NatM Go.RowKit
def RetPE (w : World) (r c : Nat) (F : Nat → Nat → Int) (K : Nat) (e : Ending) (w' : World) : Prop := ∃ (b : Nat) (l : List IV), e = .returned (.tuple #[.agg (mvc ⟨(r : Int), (c : Int), some ⟨b, 0, none⟩, r * c, r * c, l⟩).toArray, .int .i64 0]) ∧ Vr w'.heap b 27 (l.flatMap ivc) ∧ l.length = r * c ∧
  (∀ i j, i < r → j < c → LI w'.heap (F i j) (l.getD (i * c + j) default) ∧ (l.getD (i * c + j) default).m.n ≤ K) ∧ Ext w w' ∧ w.heap.size ≤ b ∧ OwL w'.heap w.heap.size l
theorem LsK.of2 {H : Array Obj} {r c K : Nat} {z : Int} {l : List IV} (h : ∀ i j, i < r → j < c → LI H z (l.getD (i * c + j) default) ∧ (l.getD (i * c + j) default).m.n ≤ K) : LsK (r * c) l (fun _ => z) K H := fun q hq => by
  have hc : 0 < c := Nat.pos_of_ne_zero fun e => by rw [e, Nat.mul_zero] at hq; omega
  have h1 : q / c < r := (Nat.div_lt_iff_lt_mul hc).2 hq
  have := h (q / c) (q % c) h1 (Nat.mod_lt _ hc)
  rwa [Nat.mul_comm, Nat.div_add_mod] at this
theorem LsK.to2 {H : Array Obj} {r c K : Nat} {z : Int} {l : List IV} (h : LsK (r * c) l (fun _ => z) K H) : ∀ i j, i < r → j < c → LI H z (l.getD (i * c + j) default) ∧ (l.getD (i * c + j) default).m.n ≤ K := fun i j hi hj => h _ (place_lt hi hj)
set_option maxRecDepth 100000 in
theorem prod1P (w : World) (r m c i j Kx Ky : Nat) (A A' : Option Addr) (k k' : Nat) (l l' : List IV) (pa pb : Nat) (gx : GM w.heap ⟨r, m, A, r * m, k, l⟩ r m Kx) (gy : GM w.heap ⟨m, c, A', m * c, k', l'⟩ m c Ky) (hx : Kx ≤ 8796093022000) (hy : Ky ≤ 8796093022000)
    (hpa : Vr w.heap pa 24 (mvc ⟨r, m, A, r * m, k, l⟩)) (hpb : Vr w.heap pb 24 (mvc ⟨m, c, A', m * c, k', l'⟩)) (hi : i < r) (hj : j < c) :
    Cl Tryz.prog 78 #[.int .i64 (i : Int), .int .i64 (j : Int), .pointer (some ⟨pa, 0, none⟩), .pointer (some ⟨pb, 0, none⟩)] w (RetP w (psum (fun q => ival (l.getD (i * m + q) default) * ival (l'.getD (q * c + j) default)) m) (Kx + Ky + m)) := by
  have hr64 := gx.sh.r64
  have hm64 := gx.sh.c64
  have hc64 := gy.sh.c64
  have hmul1 := mul64 hr64 hm64
  have hmul2 := mul64 hm64 hc64
  have hs := gx.s
  have hs' := gy.s
  have hlen := hs.len
  have hlen' := hs'.len
  dsimp only at hs hs' hlen hlen'
  refine enter Tryz.func78 rfl rfl rfl ?_
  repeat' (first | refine TL.ev (ev_simple rfl) rfl ?_ | (refine TL.alloc rfl (fun wa ba eba hVa hEa hza => ?_); have hla := box_lo (w0 := w) (by repeat (first | exact Ext.refl _ | (refine Ext.trans ?_ (by assumption)) | (apply ext_upd; assumption; rotate_left; omega))) eba) | (refine TL.ev (ev_fieldAddr rfl) rfl ?_) | (refine TL.ev (ev_loadVX rfl (by refine ⟨?_, ?_⟩; (focus (repeat (first | assumption | (apply Vr.ext; assumption) | (apply Vr.updX; assumption; rotate_left; omega)))); rfl)) rfl ?_) | refine T.seq ?_ | refine T.region ?_ | refine TL.nil ?_ | refine T.block ?_ | refine G.next ?_)
  rename_i w6 b6 eb6 hV6 hE6 hz6 hl6
  have hV6a : Vr wa.heap b6 27 (Value.agg #[.bool false, .slice none 0 0]).cells.toList := hV6.ext hEa
  have hEw : Ext w wa := (by repeat (first | exact Ext.refl _ | (refine Ext.trans ?_ (by assumption)) | (apply ext_upd; assumption; rotate_left; omega)))
  have hne : b6 ≠ ba := by omega
  refine T.loop (α := Nat × IV) (fun x => [(0, .int .i64 (i : Int)), (1, .int .i64 (j : Int)), (2, .pointer (some ⟨pa, 0, none⟩)), (3, .pointer (some ⟨pb, 0, none⟩)), (6, .pointer (some ⟨b6, 0, none⟩)), (7, .pointer (some ⟨ba, 0, none⟩)), (10, .int .i64 (m : Int)), (11, .int .i64 (x.1 : Int))])
    (fun x w' => x.1 ≤ m ∧ Ext w w' ∧ Vr w'.heap ba 27 (ivc x.2) ∧ Vr w'.heap b6 27 [.bool false, .slice none 0 0] ∧ LI w'.heap (psum (fun q => ival (l.getD (i * m + q) default) * ival (l'.getD (q * c + j) default)) x.1) x.2 ∧ x.2.m.n ≤ Kx + Ky + x.1 ∧ OwL w'.heap w.heap.size [x.2])
    (fun x => m - x.1) (0, ⟨false, ⟨none, 0, 0, []⟩⟩) (by repeat (first | exact Sub.nil _ | refine Sub.cons rfl ?_ | refine Sub.cons' rfl (int_congr (by omega)) ?_)) ⟨Nat.zero_le _, hEw, hVa, hV6a, LI.zero _, Nat.zero_le _, OwL.z _ _⟩ ?_
  rintro ⟨q, s⟩ w2 ⟨hq, hE2, hV72, hV62, hL2, hK2, hO2⟩
  dsimp only at hq hE2 hV72 hV62 hL2 hK2 hO2 ⊢
  rcases Nat.lt_or_ge q m with hqm | hqm
  · have hp1 := place_lt hi hqm
    have hp2 := place_lt hqm hj
    have s1 := hs.ext hE2
    have s2 := hs'.ext hE2
    have hpa2 := hpa.ext hE2
    have hpb2 := hpb.ext hE2
    have y1 : l[i * m + q]? = some (l.getD (i * m + q) default) := by simp [List.getD, show i * m + q < l.length by omega]
    have y2 : l'[q * c + j]? = some (l'.getD (q * c + j) default) := by simp [List.getD, show q * c + j < l'.length by omega]
    obtain ⟨g1, n1⟩ := (gx.ext hE2).g _ (List.mem_of_getElem? y1)
    obtain ⟨g2, n2⟩ := (gy.ext hE2).g _ (List.mem_of_getElem? y2)
    have g3 := hL2.g
    have hstep : psum (fun q => ival (l.getD (i * m + q) default) * ival (l'.getD (q * c + j) default)) (q + 1) = ival (l.getD (i * m + q) default) * ival (l'.getD (q * c + j) default) + ival s := by rw [hL2.val]; rfl
    obtain ⟨x1, hx1⟩ : ∃ x1, l.getD (i * m + q) default = x1 := ⟨_, rfl⟩
    obtain ⟨x2, hx2⟩ : ∃ x2, l'.getD (q * c + j) default = x2 := ⟨_, rfl⟩
    rw [hx1] at y1 g1 n1 hstep
    rw [hx2] at y2 g2 n2 hstep
    repeat' (first | refine TL.ev (ev_simple rfl) rfl ?_ | (refine TL.call rfl rfl ?_; first | (refine (zmulAddP _ x1 x2 s (by repeat (first | assumption | (apply GI.ext; assumption))) (by repeat (first | assumption | (apply GI.ext; assumption))) (by repeat (first | assumption | (apply GI.ext; assumption))) (by omega) (by omega) (by omega)).mono ?_; rintro _ wm ⟨s', rfl, hLm, hEm, hKm, hOm⟩; have hOl := OwL.of1 (lo := w.heap.size) (hOm.mono (by have := hE2.size; omega)); clear hOm; refine Back.mk ?_; have hzm := hEm.size; rw [← hstep] at hLm)) | (refine TL.cmpG rfl rfl rfl rfl (fun hc => ?_) (fun hc => ?_) <;> try (exfalso; omega)) | refine TL.ev (ev_arN rfl rfl rfl (by omega)) rfl ?_ | refine TF.nil ?_ | refine TF.e rfl ?_ | refine G.treeEnd rfl ?_ | refine TF.s rfl (fun _ hh => ev_simple rfl) rfl ?_ | refine TF.s rfl (fun _ hh => ev_arN rfl rfl rfl (by omega)) rfl ?_ | refine TF.s rfl (fun _ hh => ev_fieldAddr rfl) rfl ?_ | refine TF.s rfl (fun _ hh => ev_loadVX rfl (by refine ⟨?_, ?_⟩; (focus (repeat (first | assumption | (apply Vr.ext; assumption) | (apply Vr.updX; assumption; rotate_left; omega)))); rfl)) rfl ?_ | refine TF.s rfl (fun _ hh => ev_loadVAX rfl (by refine ⟨?_, ?_⟩; (focus (repeat (first | assumption | (apply Vr.ext; assumption) | (apply Vr.updX; assumption; rotate_left; omega)))); rfl)) rfl ?_ | refine T.regionX 5 22 (.s 0 (.s 1 (.s 2 (.s 3 (.s 4 (.s 5 (.s 6 (.s 7 (.s 8 (.s 9 (.s 10 (.s 11 (.s 12 (.s 13 (.s 14 (.s 15 (.s 16 (.s 17 (.s 18 (.s 19 (.s 20 (.e 21 (.e 22 .nil))))))))))))))))))))))) mixed (by kernel_rfl) (fun wr hzr hEr => ?_) | (refine TF.s rfl (fun _ _ => ev_indexM rfl rfl hp1 s1.some) rfl ?_) | (refine TF.s rfl (fun _ _ => ev_indexM rfl rfl hp2 s2.some) rfl ?_) | (refine TF.s rfl (fun _ hh => ev_loadM rfl (s1.ext hh) y1) rfl ?_) | (refine TF.s rfl (fun _ hh => ev_loadM rfl (s2.ext hh) y2) rfl ?_) | (refine TL.storeVX rfl rfl rfl rfl (by refine ⟨?_, ?_⟩; (focus (repeat (first | assumption | (apply Vr.ext; assumption) | (apply Vr.updX; assumption; rotate_left; omega)))); rfl) (fun ws hVs hUs hzs => ?_)) | refine G.tree rfl (by repeat (first | exact Ext.refl _ | (refine Ext.trans ?_ (by assumption)) | (apply ext_upd; assumption; rotate_left; omega))) ?_ | refine T.seq ?_ | refine T.region ?_ | refine TL.nil ?_ | refine T.block ?_ | refine T.cond_t rfl ?_ | refine T.skip ?_ | refine G.next ?_ | refine G.blockN ?_ | refine G.only ?_)
    have hV7m : Vr wm.heap ba 27 (ivc s) := (by repeat (first | assumption | (apply Vr.ext; assumption) | (apply Vr.updX; assumption; rotate_left; omega)))
    have hV6e : Vr ws.heap b6 27 [.bool false, .slice none 0 0] := (by repeat (first | assumption | (apply Vr.ext; assumption) | (apply Vr.updX; assumption; rotate_left; omega)))
    exact G.again (q + 1, s') (by repeat (first | exact Sub.nil _ | refine Sub.cons rfl ?_ | refine Sub.cons' rfl (int_congr (by omega)) ?_)) ⟨by dsimp only; omega, (by repeat (first | exact Ext.refl _ | (refine Ext.trans ?_ (by assumption)) | (apply ext_upd; assumption; rotate_left; omega))), hVs, hV6e, LI.updV hUs hV7m rfl hLm, by dsimp only; omega, OwL.updV hUs hV7m (by decide) hOl⟩ (by dsimp only; omega)
  · obtain rfl : q = m := by omega
    repeat' (first | (refine TL.cmpG rfl rfl rfl rfl (fun hc => ?_) (fun hc => ?_) <;> try (exfalso; omega)) | (refine TL.ev (ev_loadVAX rfl (by refine ⟨?_, ?_⟩; (focus (repeat (first | assumption | (apply Vr.ext; assumption) | (apply Vr.updX; assumption; rotate_left; omega)))); rfl)) rfl ?_) | (refine TL.storeVX rfl rfl rfl rfl (by refine ⟨?_, ?_⟩; (focus (repeat (first | assumption | (apply Vr.ext; assumption) | (apply Vr.updX; assumption; rotate_left; omega)))); rfl) (fun ws hVs hUs hzs => ?_)) | refine T.seq ?_ | refine T.region ?_ | refine TL.nil ?_ | refine T.cond_f rfl ?_ | refine T.exit ?_ | refine T.ret ?_ | refine G.next ?_ | refine G.blockE ?_ | refine G.thenE ?_)
    exact G.retC1 rfl rfl (held_agg hVs rfl) ⟨s, rfl, LI.updV hUs hV62 rfl hL2, (by repeat (first | exact Ext.refl _ | (refine Ext.trans ?_ (by assumption)) | (apply ext_upd; assumption; rotate_left; omega))), hK2, (OwL.updV hUs hV62 (by decide) hO2).1 _ (List.mem_singleton.2 rfl)⟩
theorem mprodP (w : World) (x y : MV) (r m c Kx Ky : Nat) (gx : GM w.heap x r m Kx) (gy : GM w.heap y m c Ky) (hx : Kx ≤ 8796093022000) (hy : Ky ≤ 8796093022000) :
    Cl Tryz.prog 64 #[.agg (mvc x).toArray, .agg (mvc y).toArray] w (RetMP w r c (fun i j => psum (fun q => ent x m i q * ent y c q j) m) (Kx + Ky + m)) := by
  obtain ⟨xr, xc, A, n, k, l⟩ := x
  obtain ⟨yr, yc, A', n', k', l'⟩ := y
  obtain ⟨h1, h2, h3, h4, h5⟩ := id gx.sh
  obtain ⟨h1', h2', h3', h4', h5'⟩ := id gy.sh
  dsimp only at h1 h2 h5 h1' h2' h5'
  subst h1 h2 h5 h1' h2' h5'
  refine enter Tryz.func64 rfl rfl rfl ?_
  repeat' (first | (refine TL.call rfl rfl ?_; first | (refine (build_okP _ r c h3 h4' 78 [.pointer (some ⟨bb, 0, none⟩), .pointer (some ⟨bd, 0, none⟩)] inferInstance (fun i j => psum (fun q => ival (l.getD (i * m + q) default) * ival (l'.getD (q * c + j) default)) m) (Kx + Ky + m) (fun i j w1 hi hj hE1 => prod1P w1 r m c i j Kx Ky A A' k k' l l' bb bd ((by repeat (first | assumption | (apply GM.ext; assumption)))) ((by repeat (first | assumption | (apply GM.ext; assumption)))) hx hy ((by repeat (first | assumption | (apply Vr.ext; assumption)))) ((by repeat (first | assumption | (apply Vr.ext; assumption)))) hi hj)).mono ?_; rintro _ wp ⟨bp, lp, rfl, hVp, hlp, hLp, hEp, hbp, hOp⟩; refine Back.mk ?_; have hzp := hEp.size)) | (refine TL.boxA (cs := mvc ⟨r, m, A, r * m, k, l⟩) rfl rfl (fun wb bb ebb hVb hEb hzb => ?_)) | (refine TL.boxA (cs := mvc ⟨m, c, A', m * c, k', l'⟩) rfl rfl (fun wd bd ebd hVd hEd hzd => ?_)) | (refine TL.alloc rfl (fun wa ba eba hVa hEa hza => ?_); have hla := box_lo (w0 := w) (by repeat (first | exact Ext.refl _ | (refine Ext.trans ?_ (by assumption)) | (apply ext_upd; assumption; rotate_left; omega))) eba) | (refine TL.ev (ev_fieldAddr rfl) rfl ?_) | (refine TL.ev (ev_loadVX rfl (by refine ⟨?_, ?_⟩; (focus (repeat (first | assumption | (apply Vr.ext; assumption) | (apply Vr.updX; assumption; rotate_left; omega)))); rfl)) rfl ?_) | (refine TL.storeVX rfl rfl rfl rfl (by refine ⟨?_, ?_⟩; (focus (repeat (first | assumption | (apply Vr.ext; assumption) | (apply Vr.updX; assumption; rotate_left; omega)))); rfl) (fun ws hVs hUs hzs => ?_)) | (refine TL.ev (ev_makeFunc rfl) rfl ?_) | refine T.seq ?_ | refine T.region ?_ | refine TL.nil ?_ | refine T.ret ?_ | refine G.next ?_)
  have hbw : w.heap.size ≤ bp := by omega
  have hnb : ba ≠ bp := by omega
  exact G.retC1 rfl rfl (held_agg hVs rfl) ⟨bp, lp, rfl, Vr.updX hUs hVp hnb.symm, hlp, fun i j hi hj => ⟨LI.updV hUs (by repeat (first | assumption | (apply Vr.ext; assumption) | (apply Vr.updX; assumption; rotate_left; omega))) rfl (hLp i j hi hj).1, (hLp i j hi hj).2⟩, (by repeat (first | exact Ext.refl _ | (refine Ext.trans ?_ (by assumption)) | (apply ext_upd; assumption; rotate_left; omega))), hbw, (OwL.updV hUs (by repeat (first | assumption | (apply Vr.ext; assumption) | (apply Vr.updX; assumption; rotate_left; omega))) (by decide) hOp).mono (by omega)⟩
theorem mmulP (w : World) (x y : MV) (r m c Kx Ky : Nat) (gx : GM w.heap x r m Kx) (gy : GM w.heap y m c Ky) (hx : Kx ≤ 8796093022000) (hy : Ky ≤ 8796093022000) :
    Cl Tryz.prog 42 #[.agg (mvc x).toArray, .agg (mvc y).toArray] w (RetPE w r c (fun i j => psum (fun q => ent x m i q * ent y c q j) m) (Kx + Ky + m)) := by
  have e1 := gx.sh.ec
  have e2 := gy.sh.er
  have h2 := sound_two gx.sh gy.sh
  refine enter Tryz.func42 rfl rfl rfl ?_
  repeat' (first | refine TL.ev (ev_simple rfl) rfl ?_ | (refine TL.call rfl rfl ?_; first | (refine (check_ok _ _ _ _ _ hSn h2 (by omega)).mono ?_; rintro _ wc ⟨rfl, hEc⟩; refine Back.mk ?_; have hzc := hEc.size) | (refine (mprodP _ x y r m c Kx Ky (by repeat (first | assumption | (apply GM.ext; assumption))) (by repeat (first | assumption | (apply GM.ext; assumption))) hx hy).mono ?_; rintro _ wp ⟨bp, lp, rfl, hVp, hlp, hLp, hEp, hbp, hOp⟩; refine Back.mk ?_; have hzp := hEp.size)) | (refine TL.cmpG rfl rfl rfl rfl (fun hc => ?_) (fun hc => ?_) <;> try first | (exfalso; omega) | exact absurd rfl hc) | (refine TL.buildX2 (f := mvc) (u := x) (v := y) rfl rfl rfl rfl rfl rfl rfl rfl rfl rfl (fun wn bn ebn hSn hEn hzn => ?_)) | (refine TL.boxA rfl rfl (fun wb bb ebb hVb hEb hzb => ?_); have hlb := box_lo (w0 := w) (by repeat (first | exact Ext.refl _ | (refine Ext.trans ?_ (by assumption)) | (apply ext_upd; assumption; rotate_left; omega))) ebb) | (refine TL.alloc rfl (fun wa ba eba hVa hEa hza => ?_); have hla := box_lo (w0 := w) (by repeat (first | exact Ext.refl _ | (refine Ext.trans ?_ (by assumption)) | (apply ext_upd; assumption; rotate_left; omega))) eba) | (refine TL.ev (ev_fieldAddr rfl) rfl ?_) | (refine TL.ev (ev_loadVX rfl (by refine ⟨?_, ?_⟩; (focus (repeat (first | assumption | (apply Vr.ext; assumption) | (apply Vr.updX; assumption; rotate_left; omega)))); rfl)) rfl ?_) | (refine TL.ev (ev_loadVAX rfl (by refine ⟨?_, ?_⟩; (focus (repeat (first | assumption | (apply Vr.ext; assumption) | (apply Vr.updX; assumption; rotate_left; omega)))); rfl)) rfl ?_) | (refine TL.storeVX rfl rfl rfl rfl (by refine ⟨?_, ?_⟩; (focus (repeat (first | assumption | (apply Vr.ext; assumption) | (apply Vr.updX; assumption; rotate_left; omega)))); rfl) (fun ws hVs hUs hzs => ?_)) | refine T.seq ?_ | refine T.region ?_ | refine TL.nil ?_ | refine T.cond_f rfl ?_ | refine T.ret ?_ | refine T.skip ?_ | refine G.next ?_)
  have hbw : w.heap.size ≤ bp := by omega
  have hnb : ba ≠ bp := by omega
  exact G.retC2 rfl rfl rfl (held_agg hVs rfl) ⟨bp, lp, rfl, Vr.updX hUs hVp hnb.symm, hlp, fun i j hi hj => ⟨LI.updV hUs (by repeat (first | assumption | (apply Vr.ext; assumption) | (apply Vr.updX; assumption; rotate_left; omega))) rfl (hLp i j hi hj).1, (hLp i j hi hj).2⟩, (by repeat (first | exact Ext.refl _ | (refine Ext.trans ?_ (by assumption)) | (apply ext_upd; assumption; rotate_left; omega))), hbw, (OwL.updV hUs (by repeat (first | assumption | (apply Vr.ext; assumption) | (apply Vr.updX; assumption; rotate_left; omega))) (by decide) hOp).mono (by omega)⟩
theorem diag0P (w : World) (p k : Nat) (A : Option Addr) (hp : Vr w.heap p 22 [.slice A 0 k]) (i j : Nat) (hi : i ≤ 64) (hj : j ≤ 64) :
    Cl Tryz.prog 80 ([Value.int .i64 (i : Int), Value.int .i64 (j : Int)] ++ [Value.pointer (some ⟨p, 0, none⟩)]).toArray w (RetP w 0 0) := by
  refine enter Tryz.func80 rfl rfl rfl ?_
  have hF := Fr.refl w
  have hin : ¬ i < 0 := Nat.not_lt_zero _
  by_cases hij : i = j
  · repeat' (first | (refine TL.isOp ?_; first | (refine TL.isG ?_; first | refine TL.grun rfl rfl rfl ?_) | (refine TL.isBin ?_; refine TL.cmpG rfl rfl rfl rfl (fun hc => ?_) (fun hc => ?_) <;> (try (first | (exfalso; omega) | exact absurd rfl hc))) | (apply TL.ev; (case hd => rfl); (case h => (first | exact ev_simple rfl | (apply Ev.isLoad; first | exact ev_loadV rfl (hp.ext hF.ext) rfl) | exact ev_len rfl | exact ev_buildX rfl rfl))) | (refine TL.storeAFr hF rfl rfl rfl rfl (by refine ⟨?_, ?_⟩; (focus (repeat (first | apply SetV.head | apply SetV.tail))); rfl) rfl ?_; clear hF; intro ws hF) | (refine TL.allocFr hF (d := 5) rfl rfl ?_; clear hF; intro w5 b5 hF)) | (refine T.is ?_; first | refine T.seq ?_ | refine T.region ?_ | refine T.cond_f rfl ?_ | refine T.ret ?_ | refine T.skip ?_) | (refine G.is ?_; first | refine G.next ?_) | refine TL.nil ?_)
    all_goals exact G.retC1 rfl rfl (held_agg (hF.var (by repeat (first | exact InV.head | apply InV.tail))) rfl) ⟨⟨false, ⟨none, 0, 0, []⟩⟩, rfl, LI.zero _, hF.ext, Nat.zero_le _, Ow.nilP _ _⟩
  · repeat' (first | (refine TL.isOp ?_; first | (refine TL.isG ?_; first | refine TL.gskip rfl rfl rfl rfl ?_) | (refine TL.isBin ?_; refine TL.cmpG rfl rfl rfl rfl (fun hc => ?_) (fun hc => ?_) <;> (try (first | (exfalso; omega) | exact absurd rfl hc))) | (apply TL.ev; (case hd => rfl); (case h => (first | exact ev_simple rfl | exact ev_buildX rfl rfl))) | (refine TL.storeAFr hF rfl rfl rfl rfl (by refine ⟨?_, ?_⟩; (focus (repeat (first | apply SetV.head | apply SetV.tail))); rfl) rfl ?_; clear hF; intro ws hF) | (refine TL.allocFr hF (d := 5) rfl rfl ?_; clear hF; intro w5 b5 hF)) | (refine T.is ?_; first | refine T.seq ?_ | refine T.region ?_ | refine T.cond_f rfl ?_ | refine T.ret ?_ | refine T.skip ?_) | (refine G.is ?_; first | refine G.next ?_) | refine TL.nil ?_)
    all_goals exact G.retC1 rfl rfl (held_agg (hF.var (by repeat (first | exact InV.head | apply InV.tail))) rfl) ⟨⟨false, ⟨none, 0, 0, []⟩⟩, rfl, LI.zero _, hF.ext, Nat.zero_le _, Ow.nilP _ _⟩
set_option maxRecDepth 100000 in
theorem mdiag0P (w : World) (r c : Nat) (hr : r ≤ 64) (hcc : c ≤ 64) : Cl Tryz.prog 68 #[.int .i64 (r : Int), .int .i64 (c : Int), .slice none 0 0] w (RetPE w r c (fun _ _ => 0) 0) := by
  have hs1 := fun (w : World) => (side_ok w.heap (r : Int) true (decide_eq_true (by omega))).cl
  have hs2 := fun (w : World) => (side_ok w.heap (c : Int) true (decide_eq_true (by omega))).cl
  refine enter Tryz.func68 rfl rfl rfl ?_
  have hF := Fr.refl w
  repeat' (first | (refine TL.isOp ?_; first | (refine TL.isG ?_; first | refine TL.grun rfl rfl rfl ?_) | (refine TL.isCall ?_; refine TL.call rfl rfl ?_; first | (refine (hs1 _).mono ?_; rintro _ wc ⟨rfl, hE⟩; replace hF := hF.exts hE.ext; clear hE; refine Back.mk ?_) | (refine (hs2 _).mono ?_; rintro _ wc ⟨rfl, hE⟩; replace hF := hF.exts hE.ext; clear hE; refine Back.mk ?_) | (refine (build_okP _ r c hr hcc 80 [.pointer (some ⟨b5, 0, none⟩)] inferInstance (fun _ _ => 0) 0 (fun i j w1 hi hj hE1 => diag0P w1 b5 0 none ((hF.var (by repeat (first | exact InV.head | apply InV.tail))).ext hE1) i j (by omega) (by omega))).mono ?_; rintro _ wz ⟨bz, lz, rfl, hVz, hlz, hgz, hE, hbz, hOz⟩; have hbz2 := Nat.le_trans hF.exs.size hbz; replace hF := (Fr.addLK (hF.newGe hbz hVz hE) (LsK.of2 hgz)).addOwL (hOz.mono hF.exs.size); clear hE hgz hVz hOz; refine Back.mk ?_)) | (refine TL.isBin ?_; refine TL.cmpG rfl rfl rfl rfl (fun hc => ?_) (fun hc => ?_) <;> (try (first | (exfalso; omega) | exact absurd rfl hc))) | (apply TL.ev; (case hd => rfl); (case h => (first | exact ev_simple rfl | (apply Ev.isLoad; first | exact ev_loadFr hF rfl (by refine ⟨?_, ?_⟩; (focus (repeat (first | exact InV.head | apply InV.tail))); rfl)) | exact ev_len rfl | exact ev_makeFunc rfl | exact ev_min2 rfl rfl))) | (refine TL.storeAFr hF rfl rfl rfl rfl (by refine ⟨?_, ?_⟩; (focus (repeat (first | apply SetV.head | apply SetV.tail))); rfl) rfl ?_; clear hF; intro ws hF) | (refine TL.boxFr hF (d := 5) (v := .slice none 0 0) rfl rfl ?_; clear hF; intro w5 b5 hF) | (refine TL.allocFr hF (d := 6) rfl rfl ?_; clear hF; intro w6 b6 hF)) | (refine T.is ?_; first | refine T.seq ?_ | refine T.region ?_ | refine T.cond_f rfl ?_ | refine T.ret ?_ | refine T.skip ?_) | (refine G.is ?_; first | refine G.next ?_) | refine TL.nil ?_)
  exact G.retC2 rfl rfl rfl (held_agg (hF.var (b := b6) (by repeat (first | exact InV.head | apply InV.tail))) rfl) ⟨bz, lz, rfl, hF.var (b := bz) (by repeat (first | exact InV.head | apply InV.tail)), hlz, LsK.to2 (Fr.lk hF (i := r * c) (l := lz) (by repeat (first | exact memH | apply memT))), hF.ext, hbz2, Fr.owL hF (l := lz) (by repeat (first | exact memH | apply memT))⟩
theorem mzeroP (w : World) (r c : Nat) (hr : r ≤ 64) (hcc : c ≤ 64) : Cl Tryz.prog 45 #[.int .i64 (r : Int), .int .i64 (c : Int)] w (RetPE w r c (fun _ _ => 0) 0) := by
  have hd := fun w => mdiag0P w r c hr hcc
  refine enter Tryz.func45 rfl rfl rfl ?_
  have hF := Fr.refl w
  repeat' (first | (refine TL.isOp ?_; first | (refine TL.isCall ?_; refine TL.call rfl rfl ?_; first | (refine (hd _).mono ?_; rintro _ wz ⟨bz, lz, rfl, hVz, hlz, hgz, hE, hbz, hOz⟩; have hbz2 := Nat.le_trans hF.exs.size hbz; replace hF := (Fr.addLK (hF.newGe hbz hVz hE) (LsK.of2 hgz)).addOwL (hOz.mono hF.exs.size); clear hE hgz hVz hOz; refine Back.mk ?_)) | (apply TL.ev; (case hd => rfl); (case h => (first | exact ev_simple rfl))) | (refine TL.storeAFr hF rfl rfl rfl rfl (by refine ⟨?_, ?_⟩; (focus (repeat (first | apply SetV.head | apply SetV.tail))); rfl) rfl ?_; clear hF; intro ws hF) | (refine TL.allocFr hF (d := 4) rfl rfl ?_; clear hF; intro w4 b4 hF)) | (refine T.is ?_; first | refine T.seq ?_ | refine T.region ?_ | refine T.ret ?_) | (refine G.is ?_; first | refine G.next ?_) | refine TL.nil ?_)
  exact G.retC2 rfl rfl rfl (held_agg (hF.var (b := b4) (by repeat (first | exact InV.head | apply InV.tail))) rfl) ⟨bz, lz, rfl, hF.var (b := bz) (by repeat (first | exact InV.head | apply InV.tail)), hlz, LsK.to2 (Fr.lk hF (i := r * c) (l := lz) (by repeat (first | exact memH | apply memT))), hF.ext, hbz2, Fr.owL hF (l := lz) (by repeat (first | exact memH | apply memT))⟩
end Go.Proofs.YtlpheckjogphmaaGreat
set_option linter.unusedSectionVars false
namespace Go.Eng
open Go Go.Proofs Go.NatM Go.RowKit Go.Proofs.YtlpheckjogphmaaGreat
def WP (P : Nat → Prop) (l : GL) : Prop := ∀ p ∈ l, ∀ k, fpA p.2.m.A p.2.m.n k → P k
theorem WP.mono {P P' : Nat → Prop} {l : GL} (h : WP P l) (hP : ∀ k, P k → P' k) : WP P' l := fun p hp k hk => hP k (h p hp k hk)
theorem WP.putL {P : Nat → Prop} {l : GL} {k : Int × Int} {x : IV} (h : WP P l) (hx : ∀ k, fpA x.m.A x.m.n k → P k) : WP P (putL l k x) := fun p hp => by
  rcases putL_mem hp with rfl | hp
  · exact hx
  · exact h p hp
def GZP (P : Nat → Prop) (H : Array Obj) (g m r c : Nat) (Z : Int × Int → Int) (N : Nat) : Prop := ∃ l : GL, Gr H g m r c l ∧ NZ l ∧ l.length = N ∧ (∀ k, zv l k = Z k) ∧ WP P l
theorem GZP.gz {P : Nat → Prop} {H : Array Obj} {g m r c N : Nat} {Z : Int × Int → Int} (h : GZP P H g m r c Z N) : GZ H g m r c Z N := by
  obtain ⟨l, h1, h2, h3, h4, _⟩ := h
  exact ⟨l, h1, h2, h3, h4⟩
theorem GZP.mono {P P' : Nat → Prop} {H : Array Obj} {g m r c N : Nat} {Z : Int × Int → Int} (h : GZP P H g m r c Z N) (hP : ∀ k, P k → P' k) : GZP P' H g m r c Z N := by
  obtain ⟨l, h1, h2, h3, h4, h5⟩ := h
  exact ⟨l, h1, h2, h3, h4, h5.mono hP⟩
theorem GZP.same {P : Nat → Prop} {H H' : Array Obj} {g m r c N : Nat} {Z : Int × Int → Int} (h : GZP P H g m r c Z N) (hz : H.size ≤ H'.size) (hg : H'[g]? = H[g]?) (hm : H'[m]? = H[m]?) (hP : ∀ k, P k → k < H.size → H'[k]? = H[k]?) : GZP P H' g m r c Z N := by
  obtain ⟨l, h1, h2, h3, h4, h5⟩ := h
  refine ⟨l, ⟨?_, ?_, fun p hp => ⟨LI.same (h1.vals p hp).1 hz fun k hk => hP k (h5 p hp k hk) ?_, (h1.vals p hp).2⟩⟩, h2, h3, h4, h5⟩
  · have := h1.cells
    unfold Vr at this ⊢
    rw [hg]; exact this
  · obtain ⟨es, k, e, hr⟩ := h1.mp
    exact ⟨es, k, hm.trans e, hr⟩
  · have hs := (h1.vals p hp).1.g.s
    obtain ⟨h0, o, e⟩ := hk
    rcases hs.mem with h1 | ⟨b, o', e', hb, _⟩
    · omega
    · rw [e] at e'; cases e'; exact hb
theorem GZP.ext {P : Nat → Prop} {w w' : World} {g m r c N : Nat} {Z : Int × Int → Int} (h : GZP P w.heap g m r c Z N) (hE : Ext w w') : GZP P w'.heap g m r c Z N := by
  obtain ⟨l, h, k⟩ := h
  exact ⟨l, h.ext hE, k⟩
def dpGZP (P : Nat → Prop) (g m r c : Nat) (Z : Int × Int → Int) (N : Nat) : DP := ⟨fun H => GZP P H g m r c Z N, fun k => k = g ∨ k = m, fun H k h e => by
  obtain ⟨l, h, _⟩ := h
  rcases e with rfl | rfl
  · exact h.lts.1
  · exact h.lts.2, fun H H' hd h => by
  obtain ⟨l, h, k⟩ := h
  exact ⟨l, h.de hd, k⟩⟩
section
variable {S : Nat → Prop} {w0 w w' : World} {L : List VB} {D : List DP} {P : Nat → Prop}
theorem Fr.gzp {g m r c N : Nat} {Z : Int × Int → Int} (hF : Fr w0 w L D S) (h : dpGZP P g m r c Z N ∈ D) : GZP P w.heap g m r c Z N := by
  have := hF.data _ h
  unfold dpGZP at this; exact this
theorem Fr.addZP {g m r c N : Nat} {Z : Int × Int → Int} (hF : Fr w0 w L D S) (hE : Ext w w') (hg : w.heap.size ≤ g) (hm : w.heap.size ≤ m) (hG : GZP P w'.heap g m r c Z N) : Fr w0 w' L (dpGZP P g m r c Z N :: D) S :=
  hF.addNew hE _ (by unfold dpGZP; exact hG) fun k hk => by
    unfold dpGZP at hk
    rcases hk with rfl | rfl
    · exact hg
    · exact hm
theorem Fr.callZP {P' : Nat → Prop} {g m r c N N' : Nat} {Z Z' : Int × Int → Int} (hF : Fr w0 w L (dpGZP P g m r c Z N :: D) S) (hE : Exs (fun k => k = m) w w') (hb : w0.heap.size ≤ m ∨ S m) (hfree : ∀ x ∈ D, ¬ x.fp m) (hG : GZP P' w'.heap g m r c Z' N') : Fr w0 w' L (dpGZP P' g m r c Z' N' :: D) S := by
  obtain ⟨l, hg, _⟩ := hF.gzp (List.mem_cons_self ..)
  obtain ⟨es, k, hm, _⟩ := hg.mp
  refine hF.callX hE hm rfl hb hfree (by unfold dpGZP; exact hG) fun _ h => ?_
  unfold dpGZP at h ⊢; exact h
end
end Go.Eng
namespace Go.Proofs.YtlpheckjogphmaaGreat
open Go Go.Eng Go.Proofs Go.NatM Go.RowKit
theorem putP (P : Nat → Prop) (w : World) (g m r c N : Nat) (Z : ZF) (p : Int × Int) (x : IV) (z : Int) (hG : GZP P w.heap g m r c Z N) (hx : LI w.heap z x) (hn : x.m.n ≤ 16384) (hP : ∀ k, fpA x.m.A x.m.n k → P k) :
    Cl Tryz.prog 35 #[.pointer (some ⟨g, 0, none⟩), spot p, ivA x] w (fun e w' => ∃ N', e = .returned (.tuple #[]) ∧ Exs (fun k => k = m) w w' ∧ GZP P w'.heap g m r c (updZ Z p z) N') := by
  obtain ⟨l, hG, hz, rfl, hv, hw⟩ := hG
  refine (gput_ok w g m r c l p x z hG hx hn).mono ?_
  rintro e w' ⟨rfl, hE, hG2⟩
  refine ⟨_, rfl, hE, _, hG2, hz.put _ _, rfl, fun k => ?_, hw.putL hP⟩
  rw [zv_putL (Gr.nodup hG), hx.val]
  unfold updZ
  rw [hv]
def RetOfP (w : World) (r c : Nat) (Z : ZF) (e : Ending) (w' : World) : Prop := ∃ g m N, e = .returned (.tuple #[.pointer (some ⟨g, 0, none⟩), .int .i64 0]) ∧ Ext w w' ∧ w.heap.size ≤ g ∧ w.heap.size ≤ m ∧ GZP (fun k => w.heap.size ≤ k) w'.heap g m r c Z N
set_option maxRecDepth 100000 in
theorem ofP (w : World) (x : MV) (r c : Nat) (gx : GM w.heap x r c 1048576) (hb : ∀ y ∈ x.l, ¬ big y) :
    Cl Tryz.prog 8 #[.agg (mvc x).toArray] w (RetOfP w r c (rowsF (ent x c) c r 0)) := by
  have hck := fun w1 => chk_ok w1 x r c gx.sh
  have hcl := fun w1 (hE : Ext w w1) => containsLong w1 x.n x.k x.A x.l (gx.s.ext hE).size (by have := gx.sh.n; have h1 := Nat.mul_le_mul gx.sh.r64 gx.sh.c64; omega) (fun y hy => ⟨(gx.g y hy).1.ext hE, Nat.le_trans (gx.g y hy).2 (by omega)⟩) false ⟨fun h => (by cases h), fun ⟨y, hy, h⟩ => absurd h (hb y hy)⟩
  have hln := fun w1 (hE : Ext w w1) => lines_ok w1 x r c 1048576 (gx.ext hE) (by omega)
  have her := gx.sh.er
  have hec := gx.sh.ec
  have hsm : ∀ i j, i < r → j < c → ¬ bigZ (ent x c i j) := fun i j hi hj => by
    have hlt := place_lt hi hj
    have hlen := gx.s.len
    have hxn := gx.sh.n
    have h1 : x.l[i * c + j]? = some (x.l.getD (i * c + j) default) := by simp [List.getD, show i * c + j < x.l.length by omega]
    have h2 := hb _ (List.mem_of_getElem? h1)
    unfold ent
    rw [← big_iff]; exact h2
  obtain ⟨F, hF0⟩ : ∃ F, ent x c = F := ⟨_, rfl⟩
  rw [hF0] at hsm ⊢
  simp only [hF0] at hln
  clear hF0
  obtain ⟨xr, xc, A, n, k, l⟩ := x
  dsimp only at her hec hcl
  subst her hec
  refine enterM Tryz.func8 rfl rfl rfl (fun _ h => by obtain ⟨_, _, _, h, _⟩ := h; cases h) ?_
  have hF := Fr.refl w
  repeat' (first | (refine TL.isOp ?_; first | (refine TL.isCall ?_; refine TL.call rfl rfl ?_; first | (refine (hck _).mono ?_; rintro _ wy ⟨rfl, hE⟩; replace hF := hF.exts hE; clear hE; refine Back.mk ?_) | (refine (hcl _ hF.ext).mono ?_; rintro _ wy ⟨rfl, hE⟩; replace hF := hF.exts hE; clear hE; refine Back.mk ?_) | (refine (blank_ok _ r c).mono ?_; rintro _ wy ⟨g, m, rfl, hE, hg, hm', hG⟩; have hm := Nat.le_trans hF.exs.size hm'; have hgz := Nat.le_trans hF.exs.size hg; replace hF := Fr.addZP (P := fun k => w.heap.size ≤ k) hF hE hg hm' (Z := fun _ => 0) (N := 0) ⟨[], hG, fun _ h => (by cases h), rfl, fun _ => rfl, fun _ h => (by cases h)⟩; clear hE hG; refine Back.mk ?_) | (refine (hln _ hF.ext).mono ?_; rintro _ w1 ⟨bm, A1, k1, l1, rfl, hVm, hLm, hE, hbm, hMf⟩; replace hF := Fr.addBoxK hF hE hbm hVm rfl hLm hMf; clear hE hMf hVm; refine Back.mk ?_)) | (refine TL.isBin ?_; refine TL.cmpG rfl rfl rfl rfl (fun hc => ?_) (fun hc => ?_) <;> (try (first | (exfalso; omega) | exact absurd rfl hc))) | (apply TL.ev; (case hd => rfl); (case h => (first | exact ev_simple rfl | (apply Ev.isLoad; first | exact ev_loadFr hF rfl (by refine ⟨?_, ?_⟩; (focus (repeat (first | exact InV.head | apply InV.tail))); rfl) | exact ev_loadAFr hF rfl (by refine ⟨?_, ?_⟩; (focus (repeat (first | exact InV.head | apply InV.tail))); rfl)) | exact ev_fieldAddr rfl))) | (refine TL.storeFr hF rfl rfl rfl rfl (by refine ⟨?_, ?_⟩; (focus (repeat (first | apply SetV.head | apply SetV.tail))); rfl) rfl ?_; clear hF; intro ws hF) | (refine TL.boxAFr hF (d := 1) (cs := [.int .i64 (r : Int), .int .i64 (c : Int), .slice A n k]) rfl rfl ?_; clear hF; intro w1 b1 hF) | (refine TL.allocFr hF (d := 5) rfl rfl ?_; clear hF; intro w5 b5 hF)) | (refine G.is ?_; first | refine G.nextI ?_) | refine TL.nil ?_ | (refine TI.is ?_; first | refine TI.seq ?_ | refine TI.region rfl ?_ | refine TI.block ?_ | refine TI.cond_f rfl ?_ | refine TI.skip ?_))
  have hE1 := hF.ext
  have hr64 := hLm.sh.r64
  have hc64 := hLm.sh.c64
  have e0 : (fun _ : Int × Int => (0 : Int)) = rowsF F c 0 0 := funext fun k => (rows_zero F c k).symm
  rw [e0] at hF
  replace hF : Fr w w1 [⟨bm, 24, [.int .i64 (r : Int), .int .i64 (c : Int), .slice A1 (r * c) k1]⟩, ⟨b5, 34, [.pointer (some ⟨g, 0, none⟩)]⟩] [dpGZP (fun k => w.heap.size ≤ k) g m r c (rowsF F c 0 0) 0, dpLM ⟨r, c, A1, r * c, k1, l1⟩ r c F 1048576] := hF.weak (by repeat (first | exact List.Sublist.refl _ | apply List.Sublist.cons_cons | apply List.Sublist.cons)) (allH (by repeat (first | exact memH | apply memT)) (allH (by repeat (first | exact memH | apply memT)) allN))
  clear e0
  refine TI.rangeFuncK (lines_iter bm r c 1048576 k1 A1 l1 F (by omega)) rfl inferInstance (fun _ => rfl) rfl ⟨hF.var (by repeat (first | exact InV.head | apply InV.tail)), hLm⟩ (fun W W' h hc => It.cxK h hc)
    (fun i W => ∃ N, Fr w W [⟨bm, 24, [.int .i64 (r : Int), .int .i64 (c : Int), .slice A1 (r * c) k1]⟩, ⟨b5, 34, [.pointer (some ⟨g, 0, none⟩)]⟩] [dpGZP (fun k => w.heap.size ≤ k) g m r c (rowsF F c i 0) N, dpLM ⟨r, c, A1, r * c, k1, l1⟩ r c F 1048576]) (fun _ _ => False) (fun i W W' ⟨N, h⟩ hc => ⟨N, h.cx hc hE1.size⟩) (fun _ _ _ h _ => h) ⟨0, hF⟩ ?_ ?_ (fun _ _ _ _ _ h => h.elim)
  · clear hF
    rintro L j ⟨i, xA, xn, xk, xl⟩ Wb W hi hL hlp ⟨N, hF⟩ hIt hEb ⟨e1, e2, hLL, hLF⟩
    dsimp only at e1 e2 hLL hLF
    subst e1
    have e3 := e2.symm
    subst e3
    have hB := hE1.size
    repeat' (first | (refine TL.isOp ?_; first | (apply TL.ev; (case hd => rfl); (case h => (first | exact ev_simple rfl)))) | (refine G.is ?_; first | refine G.nextI ?_) | refine TL.nil ?_ | (refine TI.is ?_; first | refine TI.seq ?_ | refine TI.region rfl ?_))
    refine G.begunK ⟨Nat.le_refl _, fun _ _ h _ => h⟩ fun w2 hc2 hl2 => ?_
    have hF0 := (Fr.addLK (Fr.addSm' hF hEb hLL.s (lf_fpK hLF)) hLL.g).cx hc2 hB
    have hF1 : Fr w w2 [⟨bm, 24, [.int .i64 (r : Int), .int .i64 (c : Int), .slice A1 (r * c) k1]⟩, ⟨b5, 34, [.pointer (some ⟨g, 0, none⟩)]⟩] [dpGZP (fun k => w.heap.size ≤ k) g m r c (rowsF F c i 0) N, dpLK c xl (F i) 1048576, dpSmG 2 ivc xA c xk xl, dpLM ⟨r, c, A1, r * c, k1, l1⟩ r c F 1048576] := hF0.weak (List.Sublist.refl _) (allH (by repeat (first | exact memH | apply memT)) (allH (by repeat (first | exact memH | apply memT)) (allH (by repeat (first | exact memH | apply memT)) (allH (by repeat (first | exact memH | apply memT)) allN))))
    obtain ⟨l', hG', _⟩ := hF1.gzp (g := g) (m := m) (by repeat (first | exact memH | apply memT))
    obtain ⟨es, ks, hmp, _⟩ := hG'.mp
    have nx := sm_map (hF1.smG (l := xl) (by repeat (first | exact memH | apply memT))) hmp
    have nm := sm_map (Fr.lm hF1 (x := ⟨r, c, A1, r * c, k1, l1⟩) (r := r) (c := c) (F := F) (K := 1048576) (by repeat (first | exact memH | apply memT))).s hmp
    have hsz := hF1.ext.size
    obtain ⟨S, hO, hF, hSm⟩ := Fr.openK hF1 hm hmp rfl
    clear hF0 hF1 hG' hmp
    repeat' (first | (refine TL.isOp ?_; first | (apply TL.ev; (case hd => rfl); (case h => (first | exact ev_simple rfl | exact ev_len rfl)))) | (refine G.is ?_; first | refine G.nextI ?_) | refine TL.nil ?_ | (refine TI.is ?_; first | refine TI.seq ?_ | refine TI.region rfl ?_ | refine TI.block ?_))
    refine TI.loop (α := Nat × Nat) (fun x => [(5, .pointer (some ⟨b5, 0, none⟩)), (6, .int .i64 (i : Int)), (27, .slice xA c xk), (28, .int .i64 (c : Int)), (29, .int .i64 (x.1 : Int))])
      (fun x W' => x.1 ≤ c ∧ Fr w2 W' [⟨bm, 24, [.int .i64 (r : Int), .int .i64 (c : Int), .slice A1 (r * c) k1]⟩, ⟨b5, 34, [.pointer (some ⟨g, 0, none⟩)]⟩] [dpGZP (fun k => w.heap.size ≤ k) g m r c (rowsF F c i x.1) x.2, dpLK c xl (F i) 1048576, dpSmG 2 ivc xA c xk xl, dpLM ⟨r, c, A1, r * c, k1, l1⟩ r c F 1048576] S) (fun x => c - x.1) (0, N) (by repeat (first | exact Sub.nil _ | refine Sub.cons rfl ?_ | refine Sub.cons' rfl (int_congr (by omega)) ?_)) ⟨Nat.zero_le _, hF⟩ ?_
    clear hF
    rintro ⟨q, N1⟩ w3 ⟨hq, hF⟩
    dsimp only at hq hF ⊢
    rcases Nat.lt_or_ge q c with hqn | hqn
    · have hx := (Fr.lk hF (i := c) (l := xl) (by repeat (first | exact memH | apply memT))) q hqn
      have hxs := hF.smG (l := xl) (by repeat (first | exact memH | apply memT))
      have hy : xl[q]? = some (xl.getD q default) := by have := hxs.len; simp [List.getD, show q < xl.length by omega]
      obtain ⟨y, ey⟩ : ∃ y, xl.getD q default = y := ⟨_, rfl⟩
      rw [ey] at hx hy
      have hyv := hx.1.val
      have hyn := few_of hx.1 (hsm i q hi hqn)
      replace hF : Fr w2 w3 [⟨bm, 24, [.int .i64 (r : Int), .int .i64 (c : Int), .slice A1 (r * c) k1]⟩, ⟨b5, 34, [.pointer (some ⟨g, 0, none⟩)]⟩] [dpGZP (fun k => w.heap.size ≤ k) g m r c (rowsF F c i q) N1, dpGI y, dpLK c xl (F i) 1048576, dpSmG 2 ivc xA c xk xl, dpLM ⟨r, c, A1, r * c, k1, l1⟩ r c F 1048576] S := (Fr.addGI hF hx.1.g).weak (List.Sublist.refl _) (allH (by repeat (first | exact memH | apply memT)) (allH (by repeat (first | exact memH | apply memT)) (allH (by repeat (first | exact memH | apply memT)) (allH (by repeat (first | exact memH | apply memT)) (allH (by repeat (first | exact memH | apply memT)) allN)))))
      have hnb := hsm i q hi hqn
      clear ey hx hxs
      obtain ⟨ys, ⟨yA, yn, yc, yl⟩⟩ := y
      dsimp only at hyn
      repeat' (first | (refine TL.isOp ?_; first | (refine TL.isCall ?_; refine TL.call rfl rfl ?_; first | (refine (zleastO _ ⟨ys, ⟨yA, yn, yc, yl⟩⟩ (Fr.gi hF (by repeat (first | exact memH | apply memT))) (by dsimp only; omega)).mono ?_; rintro _ wy ⟨z, rfl, hz, hE, hzn, hOz⟩; have hNz := (Nw.of (x := z) hOz).mono (Nat.le_trans hsz hF.exs.size); clear hOz; rw [hyv] at hz; replace hF := Fr.swapD (Fr.addLI (hF.exts hE) hz); clear hE hz; refine Back.mk ?_) | (refine (putP (fun k => w.heap.size ≤ k) _ g m r c N1 (rowsF F c i q) ((i : Int), (q : Int)) z (F i q) (hF.gzp (by repeat (first | exact memH | apply memT))) (Fr.li hF (by repeat (first | exact memH | apply memT))) (by dsimp only at hzn; omega) hNz).mono ?_; rintro _ wy ⟨N2, rfl, hE, hG⟩; rw [show updZ (rowsF F c i q) ((i : Int), (q : Int)) (F i q) = rowsF F c i (q + 1) from funext fun k => rows_step F hqn k] at hG; replace hF := hF.callZP hE (.inr hSm) (by repeat (first | exact nfN | refine nfC nf_gi ?_ | refine nfC nf_li ?_ | refine nfC nf_lk ?_ | refine nfC (nf_smG nx) ?_ | refine nfC (nf_lm nm) ?_)) hG; clear hE hG; refine Back.mk ?_)) | (refine TL.isBin ?_; refine TL.cmpG rfl rfl rfl rfl (fun hc => ?_) (fun hc => ?_) <;> (try (first | (exfalso; omega) | exact absurd rfl hc))) | (apply TL.ev; (case hd => rfl); (case h => (first | exact ev_simple rfl | (apply Ev.isBin; first | exact ev_arN rfl rfl rfl (by omega)) | (apply Ev.isLoad; first | exact ev_loadMc [.bool ys, .slice yA yn yc] rfl (Fr.smG hF (l := xl) (by repeat (first | exact memH | apply memT))) hy rfl) | exact ev_indexM rfl rfl hqn (Fr.smG hF (l := xl) (by repeat (first | exact memH | apply memT))).some))) | (refine TL.storeAFr hF rfl rfl rfl rfl (by refine ⟨?_, ?_⟩; (focus (repeat (first | apply SetV.head | apply SetV.tail))); rfl) rfl ?_; clear hF; intro ws hF) | (refine TL.allocFr hF (d := 9) rfl rfl ?_; clear hF; intro w9 b9 hF)) | (refine TF.is ?_; first | refine TF.nil ?_ | refine TF.e rfl ?_ | (refine TF.pick rfl ?_; first | (apply TFo.ev; (case hd => rfl); (case h => (intro wh hF; first | exact ev_simple rfl | (apply Ev.isLoad; first | exact ev_loadFr hF rfl (by refine ⟨?_, ?_⟩; (focus (repeat (first | exact InV.head | apply InV.tail))); rfl) | exact ev_loadAFr hF rfl (by refine ⟨?_, ?_⟩; (focus (repeat (first | exact InV.head | apply InV.tail))); rfl)) | exact ev_buildX rfl rfl))))) | (refine G.is ?_; first | refine G.nextI ?_ | refine G.blockN ?_ | refine G.only ?_ | refine G.treeEnd rfl ?_ | refine G.tree rfl (by first | exact hF | exact hF.weak (List.sublist_append_right _ _) (by repeat (first | exact allR | apply allT)) | exact hF.weak (by repeat (first | exact List.Sublist.refl _ | apply List.Sublist.cons)) (by repeat (first | exact allR | apply allT)) | exact hF.weak (by repeat (first | exact List.Sublist.refl _ | apply List.Sublist.cons)) (by repeat (first | exact allN | refine allH (by repeat (first | exact memH | apply memT)) ?_))) ?_) | refine TL.nil ?_ | (refine TI.is ?_; first | refine TI.seq ?_ | refine TI.region rfl ?_ | refine TI.block ?_ | refine TI.cond_t rfl ?_ | refine TI.skip ?_ | (refine TI.regionFd hF 13 6 (.s 0 (.s 1 (.s 2 (.s 3 (.s 4 (.e 5 (.e 6 .nil))))))) mixed (by kernel_rfl) rfl ?_; clear hF; intro wr hF)))
      all_goals exact G.again (q + 1, N2) (by repeat (first | exact Sub.nil _ | refine Sub.cons rfl ?_ | refine Sub.cons' rfl (int_congr (by omega)) ?_)) ⟨hqn, hF.weak (List.Sublist.cons _ (List.Sublist.refl _)) (allH (by repeat (first | exact memH | apply memT)) (allH (by repeat (first | exact memH | apply memT)) (allH (by repeat (first | exact memH | apply memT)) (allH (by repeat (first | exact memH | apply memT)) allN))))⟩ (by dsimp only; omega)
    · obtain rfl : q = c := by omega
      repeat' (first | (refine TL.isOp ?_; first | (refine TL.isBin ?_; refine TL.cmpG rfl rfl rfl rfl (fun hc => ?_) (fun hc => ?_) <;> (try (first | (exfalso; omega) | exact absurd rfl hc)))) | (refine G.is ?_; first | refine G.nextI ?_ | refine G.blockN ?_ | refine G.blockE ?_ | refine G.thenE ?_) | refine TL.nil ?_ | (refine TI.is ?_; first | refine TI.seq ?_ | refine TI.region rfl ?_ | refine TI.cond_f rfl ?_ | refine TI.exit ?_))
      have hF0 := Fr.shutK hO hF
      rw [show rowsF F q i q = rowsF F q (i + 1) 0 from funext fun k => rows_next F q i k] at hF0
      exact G.roundK (Fr.othersK hO hF) ⟨⟨N1, hF0.weak (List.Sublist.refl _) (allH (by repeat (first | exact memH | apply memT)) (allH (by repeat (first | exact memH | apply memT)) allN))⟩, hF.var (by repeat (first | exact InV.head | apply InV.tail)), Fr.lm hF (by repeat (first | exact memH | apply memT))⟩
  · rintro D w2 hD hDw ⟨N, hF⟩ hIt
    obtain ⟨S, hO, hF⟩ := hF.open
    repeat' (first | (refine TL.isOp ?_; first | (apply TL.ev; (case hd => rfl); (case h => (first | exact ev_simple rfl | (apply Ev.isLoad; first | exact ev_loadFr hF rfl (by refine ⟨?_, ?_⟩; (focus (repeat (first | exact InV.head | apply InV.tail))); rfl)))))) | (refine G.is ?_; first | refine G.nextI ?_ | refine G.blockN ?_) | refine TL.nil ?_ | (refine TI.is ?_; first | refine TI.seq ?_ | refine TI.region rfl ?_ | refine TI.ret ?_))
    have hD2 := (Fr.others hO hF).same D _ hDw rfl
    have hF1 := (Fr.shut hO hF).cx (Cx.shut hD hD2) hE1.size
    exact G.retK2 rfl rfl rfl hD2 ⟨g, m, N, rfl, hF1.ext, hgz, hm, hF1.gzp (by repeat (first | exact memH | apply memT))⟩
theorem gset_putP (w : World) (g m r c : Nat) (l : GL) (p1 p2 : Int) (x : IV) (hG : Gr w.heap g m r c l) (hp : (0 ≤ p1 ∧ p1 < (r : Int)) ∧ (0 ≤ p2 ∧ p2 < (c : Int))) (hx : GI w.heap x) (hxn : x.m.n ≤ 1099511627776) (hl : ¬ GLarge l (p1, p2) x) (hz : ival x ≠ 0) :
    Cl Tryz.prog 12 #[.pointer (some ⟨g, 0, none⟩), .int .i64 p1, .int .i64 p2, ivA x] w (fun e w' => ∃ y, (LI w'.heap (ival x) y ∧ Nw w.heap.size y) ∧ RetW w g m r c (ups l (p1, p2) y) (.int .i64 0) e w') := by
  have hF := Gr.frD hG (Fr.mt (Fr.refS w fun k => k = m) (dpGI x) (by unfold dpGI; exact hx))
  have hgm := hG.ne
  clear hG
  have h1 := fun w1 => in_t w1 p1 r hp.1
  have h2 := fun w1 => in_t w1 p2 c hp.2
  have hsg := fun w1 (g1 : GI w1.heap x) => zsign_ok w1 x g1 (by omega)
  obtain ⟨b, hb⟩ : ∃ b, (lkp l (p1, p2)).isSome = b := ⟨_, rfl⟩
  have hbig : ¬ big x := fun h => hl (.inl h)
  have hlen : b = false → l.length < 4096 := fun h => by
    refine Nat.lt_of_not_le fun h' => hl (.inr ⟨hb.trans h, hz, h'⟩)
  have hlong := fun w1 (g1 : GI w1.heap x) => long_ok w1 x g1 (by omega) false ⟨fun h => (by cases h), fun h => absurd h hbig⟩
  have hzl := fun w1 (g1 : GI w1.heap x) => zleastO w1 x g1 (by omega)
  have hfew : ∀ (H : Array Obj) y, LI H (ival x) y → y.m.n ≤ 16384 := fun H y h => h.few hbig
  generalize hs : sig (ival x) = sg at hsg
  have hsz : sg ≠ 0 := by rw [← hs]; exact sig_ne hz
  generalize ival x = z at *
  clear hp hx hl hs hbig
  obtain ⟨xn, ⟨xA, xk, xc, xl⟩⟩ := x
  refine enter Tryz.func12 rfl rfl rfl ?_
  cases b
  · have hlen := hlen rfl
    repeat' (first | (refine TL.isOp ?_; first | (refine TL.isG ?_; first | refine TL.grun rfl rfl rfl ?_) | (refine TL.isCall ?_; refine TL.call rfl rfl ?_; first | (refine (h1 _).mono ?_; rintro _ wy ⟨rfl, hE⟩; replace hF := hF.exts hE; clear hE; refine Back.mk ?_) | (refine (h2 _).mono ?_; rintro _ wy ⟨rfl, hE⟩; replace hF := hF.exts hE; clear hE; refine Back.mk ?_) | (refine (hlong _ (Fr.gi hF (by repeat (first | exact memH | apply memT)))).mono ?_; rintro _ wy ⟨rfl, hE⟩; replace hF := hF.exts hE; clear hE; refine Back.mk ?_) | (refine (hsg _ (Fr.gi hF (by repeat (first | exact memH | apply memT)))).mono ?_; rintro _ wy ⟨rfl, hE⟩; replace hF := hF.exts hE; clear hE; refine Back.mk ?_) | (refine (hzl _ (Fr.gi hF (by repeat (first | exact memH | apply memT)))).mono ?_; rintro _ wy ⟨y, rfl, hy, hE, hyn, hOy⟩; have hNy := (Nw.of (x := y) hOy).mono hF.exs.size; replace hF := Fr.addLI (hF.exts hE) hy; clear hE hyn hy hOy; refine Back.mk ?_) | (refine (gput_put _ g m r c l (p1, p2) y z (hF.gr (by repeat (first | exact memH | apply memT)) (by repeat (first | exact memH | apply memT)) (by repeat (first | exact memH | apply memT))) (Fr.li hF (by repeat (first | exact memH | apply memT))) (hfew _ _ (Fr.li hF (by repeat (first | exact memH | apply memT)))) hz).mono ?_; rintro _ wy ⟨rfl, hE, hG⟩; replace hF := Fr.addGv (Fr.callMp (Fr.swapD hF) hE (.inr rfl) (nfC nf_li (nfC (nf_cb hgm) (nfC nf_gv (nfC nf_gi nfN)))) hG.mp) hG.vals; clear hE hG; refine Back.mk ?_)) | (refine TL.isBin ?_; refine TL.cmpG rfl rfl rfl rfl (fun hc => ?_) (fun hc => ?_) <;> (try (first | (exfalso; omega) | exact absurd rfl hc))) | (apply TL.ev; (case hd => rfl); (case h => (first | exact ev_simple rfl | (apply Ev.isBin; first | exact ev_eqlP rfl rfl rfl) | (apply Ev.isLoad; first | exact ev_loadAFr hF rfl (by refine ⟨?_, ?_⟩; (focus (repeat (first | exact InV.head | apply InV.tail))); rfl) | exact ev_loadCb hF rfl (by repeat (first | exact memH | apply memT)) rfl) | exact ev_fieldAddr rfl | exact ev_buildX rfl rfl | exact ev_nilCheck rfl | exact ev_mlookOkI hF (y := (p1, p2)) rfl rfl (by repeat (first | exact memH | apply memT)) hb | exact ev_mlen hF rfl (by repeat (first | exact memH | apply memT))))) | (refine TL.storeAFr hF rfl rfl rfl rfl (by refine ⟨?_, ?_⟩; (focus (repeat (first | apply SetV.head | apply SetV.tail))); rfl) rfl ?_; clear hF; intro ws hF) | (refine TL.boxAFr hF (d := 7) (cs := [.bool xn, .slice xA xk xc]) rfl rfl ?_; clear hF; intro w7 b7 hF) | (refine TL.allocFr hF (d := 9) rfl rfl ?_; clear hF; intro w9 b9 hF) | (refine TL.allocFr hF (d := 10) rfl rfl ?_; clear hF; intro w10 b10 hF)) | (refine TF.is ?_; first | refine TF.nil ?_ | refine TF.e rfl ?_ | refine TF.alt ?_ ?_ | (refine TF.pick rfl ?_; first | (apply TFo.ev; (case hd => rfl); (case h => (intro wh hF; first | exact ev_simple rfl | (apply Ev.isLoad; first | exact ev_loadAFr hF rfl (by refine ⟨?_, ?_⟩; (focus (repeat (first | exact InV.head | apply InV.tail))); rfl) | exact ev_loadCb hF rfl (by repeat (first | exact memH | apply memT)) rfl) | exact ev_fieldAddr rfl | exact ev_nilCheck rfl))))) | (refine T.is ?_; first | refine T.seq ?_ | refine T.region ?_ | refine T.cond_f rfl ?_ | refine T.ret ?_ | refine T.skip ?_ | (refine T.regionFr hF 4 12 (.s 0 (.s 1 (.s 2 (.s 3 (.s 4 (.alt (.e 5 (.s 6 (.s 7 (.s 8 (.e 9 (.e 10 (.s 11 .nil))))))) (.e 9 (.e 5 (.s 6 (.s 7 (.s 8 (.e 10 (.s 11 .nil))))))))))))) mixed (by kernel_rfl) ?_; clear hF; intro wr hF) | (refine T.regionFr hF 9 4 (.s 0 (.s 1 (.s 2 (.e 3 (.e 4 .nil))))) mixed (by kernel_rfl) ?_; clear hF; intro wr hF)) | (refine G.is ?_; first | refine G.next ?_ | refine G.only ?_ | refine G.treeEnd rfl ?_ | refine G.tree rfl (by first | exact hF | exact hF.weak (List.sublist_append_right _ _) (by repeat (first | exact allR | apply allT)) | exact hF.weak (by repeat (first | exact List.Sublist.refl _ | apply List.Sublist.cons)) (by repeat (first | exact allR | apply allT)) | exact hF.weak (by repeat (first | exact List.Sublist.refl _ | apply List.Sublist.cons)) (by repeat (first | exact allN | refine allH (by repeat (first | exact memH | apply memT)) ?_))) ?_) | refine TL.nil ?_)
    all_goals exact G.ret1 rfl rfl ⟨y, ⟨Fr.li hF (by repeat (first | exact memH | apply memT)), hNy⟩, rfl, hF.exs, hF.gr (by repeat (first | exact memH | apply memT)) (by repeat (first | exact memH | apply memT)) (by repeat (first | exact memH | apply memT))⟩
  · clear hlen
    repeat' (first | (refine TL.isOp ?_; first | (refine TL.isG ?_; first | refine TL.grun rfl rfl rfl ?_ | refine TL.gskip rfl rfl rfl rfl ?_) | (refine TL.isCall ?_; refine TL.call rfl rfl ?_; first | (refine (h1 _).mono ?_; rintro _ wy ⟨rfl, hE⟩; replace hF := hF.exts hE; clear hE; refine Back.mk ?_) | (refine (h2 _).mono ?_; rintro _ wy ⟨rfl, hE⟩; replace hF := hF.exts hE; clear hE; refine Back.mk ?_) | (refine (hlong _ (Fr.gi hF (by repeat (first | exact memH | apply memT)))).mono ?_; rintro _ wy ⟨rfl, hE⟩; replace hF := hF.exts hE; clear hE; refine Back.mk ?_) | (refine (hzl _ (Fr.gi hF (by repeat (first | exact memH | apply memT)))).mono ?_; rintro _ wy ⟨y, rfl, hy, hE, hyn, hOy⟩; have hNy := (Nw.of (x := y) hOy).mono hF.exs.size; replace hF := Fr.addLI (hF.exts hE) hy; clear hE hyn hy hOy; refine Back.mk ?_) | (refine (gput_put _ g m r c l (p1, p2) y z (hF.gr (by repeat (first | exact memH | apply memT)) (by repeat (first | exact memH | apply memT)) (by repeat (first | exact memH | apply memT))) (Fr.li hF (by repeat (first | exact memH | apply memT))) (hfew _ _ (Fr.li hF (by repeat (first | exact memH | apply memT)))) hz).mono ?_; rintro _ wy ⟨rfl, hE, hG⟩; replace hF := Fr.addGv (Fr.callMp (Fr.swapD hF) hE (.inr rfl) (nfC nf_li (nfC (nf_cb hgm) (nfC nf_gv (nfC nf_gi nfN)))) hG.mp) hG.vals; clear hE hG; refine Back.mk ?_)) | (apply TL.ev; (case hd => rfl); (case h => (first | exact ev_simple rfl | (apply Ev.isBin; first | exact ev_eqlP rfl rfl rfl) | (apply Ev.isLoad; first | exact ev_loadAFr hF rfl (by refine ⟨?_, ?_⟩; (focus (repeat (first | exact InV.head | apply InV.tail))); rfl) | exact ev_loadCb hF rfl (by repeat (first | exact memH | apply memT)) rfl) | exact ev_fieldAddr rfl | exact ev_buildX rfl rfl | exact ev_nilCheck rfl | exact ev_mlookOkI hF (y := (p1, p2)) rfl rfl (by repeat (first | exact memH | apply memT)) hb))) | (refine TL.storeAFr hF rfl rfl rfl rfl (by refine ⟨?_, ?_⟩; (focus (repeat (first | apply SetV.head | apply SetV.tail))); rfl) rfl ?_; clear hF; intro ws hF) | (refine TL.boxAFr hF (d := 7) (cs := [.bool xn, .slice xA xk xc]) rfl rfl ?_; clear hF; intro w7 b7 hF) | (refine TL.allocFr hF (d := 9) rfl rfl ?_; clear hF; intro w9 b9 hF) | (refine TL.allocFr hF (d := 10) rfl rfl ?_; clear hF; intro w10 b10 hF)) | (refine TF.is ?_; first | refine TF.nil ?_ | refine TF.e rfl ?_ | refine TF.alt ?_ ?_ | (refine TF.pick rfl ?_; first | (apply TFo.ev; (case hd => rfl); (case h => (intro wh hF; first | exact ev_simple rfl | (apply Ev.isLoad; first | exact ev_loadAFr hF rfl (by refine ⟨?_, ?_⟩; (focus (repeat (first | exact InV.head | apply InV.tail))); rfl) | exact ev_loadCb hF rfl (by repeat (first | exact memH | apply memT)) rfl) | exact ev_fieldAddr rfl | exact ev_nilCheck rfl))))) | (refine T.is ?_; first | refine T.seq ?_ | refine T.region ?_ | refine T.cond_f rfl ?_ | refine T.ret ?_ | refine T.skip ?_ | (refine T.regionFr hF 4 12 (.s 0 (.s 1 (.s 2 (.s 3 (.s 4 (.alt (.e 5 (.s 6 (.s 7 (.s 8 (.e 9 (.e 10 (.s 11 .nil))))))) (.e 9 (.e 5 (.s 6 (.s 7 (.s 8 (.e 10 (.s 11 .nil))))))))))))) mixed (by kernel_rfl) ?_; clear hF; intro wr hF) | (refine T.regionFr hF 9 4 (.s 0 (.s 1 (.s 2 (.e 3 (.e 4 .nil))))) mixed (by kernel_rfl) ?_; clear hF; intro wr hF)) | (refine G.is ?_; first | refine G.next ?_ | refine G.only ?_ | refine G.treeEnd rfl ?_ | refine G.tree rfl (by first | exact hF | exact hF.weak (List.sublist_append_right _ _) (by repeat (first | exact allR | apply allT)) | exact hF.weak (by repeat (first | exact List.Sublist.refl _ | apply List.Sublist.cons)) (by repeat (first | exact allR | apply allT)) | exact hF.weak (by repeat (first | exact List.Sublist.refl _ | apply List.Sublist.cons)) (by repeat (first | exact allN | refine allH (by repeat (first | exact memH | apply memT)) ?_))) ?_) | refine TL.nil ?_)
    all_goals exact G.ret1 rfl rfl ⟨y, ⟨Fr.li hF (by repeat (first | exact memH | apply memT)), hNy⟩, rfl, hF.exs, hF.gr (by repeat (first | exact memH | apply memT)) (by repeat (first | exact memH | apply memT)) (by repeat (first | exact memH | apply memT))⟩
def RetChP (P : Nat → Prop) (w : World) (g m r c : Nat) (Z : ZF) (er : Int) (e : Ending) (w' : World) : Prop := ∃ N', e = .returned (.int .i64 er) ∧ Exs (fun k => k = m) w w' ∧ GZP (fun k => P k ∨ w.heap.size ≤ k) w'.heap g m r c Z N'
theorem chSetP (P : Nat → Prop) (w : World) (g m r c N : Nat) (Z : ZF) (p1 p2 : Int) (x : IV) (hG : GZP P w.heap g m r c Z N) (hi : InRC r c Z) (hrc : r * c ≤ 4096) (hp : (0 ≤ p1 ∧ p1 < (r : Int)) ∧ (0 ≤ p2 ∧ p2 < (c : Int))) (hx : GI w.heap x) (hxn : x.m.n ≤ 1099511627776) (hb : ¬ bigZ (ival x)) :
    Cl Tryz.prog 12 #[.pointer (some ⟨g, 0, none⟩), .int .i64 p1, .int .i64 p2, ivA x] w (RetChP P w g m r c (updZ Z (p1, p2) (ival x)) 0) := by
  have hnb : ¬ SetBz Z N (p1, p2) (ival x) := by
    rintro (h | ⟨h0, _, h⟩)
    · exact hb h
    · have := gz_room hG.gz hi hrc hp h0; omega
  obtain ⟨l, hGr, hz, rfl, hv, hw⟩ := hG
  have hb' : ¬ SetBad l (p1, p2) (ival x) := by unfold SetBad; rw [hv]; exact hnb
  have hgl : ¬ GLarge l (p1, p2) x := fun h => hb' ((setBad_iff hz).1 h)
  have hn := Gr.nodup hGr
  by_cases h0 : ival x = 0
  · refine (gset_zero w g m r c l p1 p2 x hGr hp hx hxn h0).mono ?_
    rintro e w' ⟨rfl, hE, hG2⟩
    have e1 : del l (p1, p2) = putL l (p1, p2) x := by unfold putL; rw [if_pos h0]
    rw [e1] at hG2
    refine ⟨_, rfl, hE, _, hG2, hz.put _ _, rfl, fun k => ?_, fun p hp k hk => ?_⟩
    · rw [zv_putL hn]; unfold updZ; rw [hv]
    · rw [← e1] at hp
      exact .inl (hw p ((del_sub l _).subset hp) k hk)
  · refine (gset_putP w g m r c l p1 p2 x hGr hp hx hxn hgl h0).mono ?_
    rintro e w' ⟨y, ⟨hy, hNy⟩, rfl, hE, hG2⟩
    have hyv := hy.val
    have e1 : ups l (p1, p2) y = putL l (p1, p2) y := by unfold putL; rw [if_neg (by rw [hyv]; exact h0)]
    rw [e1] at hG2
    refine ⟨_, rfl, hE, _, hG2, hz.put _ _, rfl, fun k => ?_, (hw.mono fun k hk => .inl hk).putL fun k hk => .inr (hNy k hk)⟩
    rw [zv_putL hn, hyv]; unfold updZ; rw [hv]
end Go.Proofs.YtlpheckjogphmaaGreat
set_option linter.unusedSectionVars false
namespace Go.Proofs.YtlpheckjogphmaaGreat
open Go Go.Eng Go.Proofs Go.NatM Go.RowKit
def RetARP (w : World) (g m r c : Nat) (l : GL) (Z : Int × Int → Int) (e : Ending) (w' : World) : Prop := ∃ (er : Int) (l2 : GL), RetW w g m r c l2 (.int .i64 er) e w' ∧ (∀ p ∈ l2, (∃ q ∈ l, p.2 = q.2) ∨ Nw w.heap.size p.2) ∧ ((er = 5 ∧ l2 = l ∧ Refu Z) ∨ (er = 0 ∧ NZ l2 ∧ l2.length ≤ 4096 ∧ (∀ k, zv l2 k = Z k) ∧ ∀ k, ¬ bigZ (Z k)))
theorem garow_okP (w : World) (g m r c : Nat) (l : GL) (i j : Int) (kx : IV) (hG : Gr w.heap g m r c l) (hl : l.length ≤ 4096) (hz : NZ l) (hi : 0 ≤ i ∧ i < (r : Int)) (hj : 0 ≤ j ∧ j < (r : Int)) (hk : GI w.heap kx) (hkn : kx.m.n ≤ 1073741824) :
    Cl Tryz.prog 13 #[.pointer (some ⟨g, 0, none⟩), .int .i64 i, .int .i64 j, ivA kx] w (RetARP w g m r c l (rowZ l i j (ival kx))) := by
  have hn : (l.map (·.1)).Nodup := by obtain ⟨es, k, _, h⟩ := hG.mp; exact h.keys
  have hsm := gv_small hG.vals
  have hF := Gr.frD hG (Fr.mt (Fr.refS w fun k => k = m) (dpGI kx) (by unfold dpGI; exact hk))
  have hgm := hG.ne
  clear hG hk
  have h1 := fun w1 => in_t w1 i r hi
  have h2 := fun w1 => in_t w1 j r hj
  have hln := fun w1 (hG : Gr w1.heap g m r c l) => gline_ok w1 g m r c l j hG (by omega)
  obtain ⟨xn, ⟨xA, xk, xc, xl⟩⟩ := kx
  generalize hkv : ival ⟨xn, ⟨xA, xk, xc, xl⟩⟩ = kv
  dsimp only at hkn
  refine enter Tryz.func13 rfl rfl rfl ?_
  repeat' (first | (refine TL.isOp ?_; first | (refine TL.isG ?_; first | refine TL.grun rfl rfl rfl ?_) | (refine TL.isCall ?_; refine TL.call rfl rfl ?_; first | (refine (h1 _).mono ?_; rintro _ wy ⟨rfl, hE⟩; replace hF := hF.exts hE; clear hE; refine Back.mk ?_) | (refine (h2 _).mono ?_; rintro _ wy ⟨rfl, hE⟩; replace hF := hF.exts hE; clear hE; refine Back.mk ?_) | (refine (hln _ (hF.gr (by repeat (first | exact memH | apply memT)) (by repeat (first | exact memH | apply memT)) (by repeat (first | exact memH | apply memT)))).mono ?_; rintro _ wy ⟨l', pb, hpm, hpb, rfl, hFl⟩; rw [slv_eq hpb]; replace hF := Fr.joinF hF hFl (fun d hd => by cases hd); clear hFl; refine Back.mk ?_)) | (apply TL.ev; (case hd => rfl); (case h => (first | exact ev_simple rfl | (apply Ev.isBin; first | exact ev_eqlP rfl rfl rfl) | (apply Ev.isLoad; first | exact ev_loadCb hF rfl (by repeat (first | exact memH | apply memT)) rfl) | exact ev_len rfl | exact ev_fieldAddr rfl | exact ev_nilCheck rfl))) | (refine TL.boxAFr hF (d := 7) (cs := [.bool xn, .slice xA xk xc]) rfl rfl ?_; clear hF; intro w7 b7 hF)) | (refine TF.is ?_; first | refine TF.nil ?_ | refine TF.e rfl ?_ | (refine TF.pick rfl ?_; first | (apply TFo.ev; (case hd => rfl); (case h => (intro wh hF; first | exact ev_simple rfl | (apply Ev.isLoad; first | exact ev_loadCb hF rfl (by repeat (first | exact memH | apply memT)) rfl) | exact ev_fieldAddr rfl | exact ev_nilCheck rfl | exact ev_mlen hF rfl (by repeat (first | exact memH | apply memT))))))) | (refine T.is ?_; first | refine T.seq ?_ | refine T.region ?_ | refine T.block ?_ | refine T.cond_f rfl ?_ | refine T.skip ?_ | (refine T.regionFr hF 3 10 (.s 0 (.s 1 (.s 3 (.s 4 (.s 5 (.s 6 (.e 2 (.s 7 (.s 8 (.s 9 .nil)))))))))) mixed (by kernel_rfl) ?_; clear hF; intro wr hF)) | (refine G.is ?_; first | refine G.next ?_ | refine G.only ?_ | refine G.tree rfl (by first | exact hF | exact hF.weak (List.sublist_append_right _ _) (by repeat (first | exact allR | apply allT)) | exact hF.weak (by repeat (first | exact List.Sublist.refl _ | apply List.Sublist.cons)) (by repeat (first | exact allR | apply allT)) | exact hF.weak (by repeat (first | exact List.Sublist.refl _ | apply List.Sublist.cons)) (by repeat (first | exact allN | refine allH (by repeat (first | exact memH | apply memT)) ?_))) ?_) | refine TL.nil ?_)
  have hlen := hpm.length_eq
  have hlen2 := inRow_len j l
  have hrow : ∀ p ∈ l', p ∈ l ∧ p.1.1 = j := fun p hp => mem_inRow.1 (hpm.mem_iff.1 hp)
  have hnl : (l'.map (·.1)).Nodup := ((hpm.map _).nodup_iff).2 (hn.sublist (List.filter_sublist.map _))
  refine T.loop (α := GL × Int) (fun x => [(0, .pointer (some ⟨g, 0, none⟩)), (1, .int .i64 i), (7, .pointer (some ⟨b7, 0, none⟩)), (9, .slice (slA pb) l'.length (slC pb)), (10, .int .i64 x.2), (45, .slice (slA pb) l'.length (slC pb)), (46, .int .i64 (l'.length : Int)), (47, .int .i64 (x.1.length : Int))])
    (fun x w' => (x.1.length ≤ l'.length ∧ NewR l i kv (l'.take x.1.length) x.1 ∧ x.2 = ((apl i l x.1).length : Int) ∧ (∀ p ∈ x.1, ¬ bigZ (ival p.2) ∧ Nw w.heap.size p.2) ∧ (apl i l x.1).length ≤ l.length + x.1.length) ∧ Fr w w' (lvb (x.1 ++ l'.drop x.1.length) pb ++ [⟨b7, 27, [.bool xn, .slice xA xk xc]⟩]) [dpMp spot ivA m l, dpCb g 84 (grc r c m), dpGv l, dpGI ⟨xn, ⟨xA, xk, xc, xl⟩⟩, dpGv x.1] (fun k => k = m)) (fun x => l'.length - x.1.length) ([], (l.length : Int)) (by repeat (first | exact Sub.nil _ | refine Sub.cons rfl ?_ | refine Sub.cons' rfl (int_congr (by omega)) ?_)) ⟨⟨Nat.zero_le _, rfl, rfl, fun p hp => (by cases hp), Nat.le_refl _⟩, by
      have h0 := Fr.addGv hF (l := []) fun p hp => (by cases hp)
      exact h0.weak (List.Sublist.refl _) (allH (by repeat (first | exact memH | apply memT)) (allH (by repeat (first | exact memH | apply memT)) (allH (by repeat (first | exact memH | apply memT)) (allH (by repeat (first | exact memH | apply memT)) (allH (by repeat (first | exact memH | apply memT)) allN)))))⟩ ?_
  clear hF
  rintro ⟨nw, n⟩ w1 ⟨⟨hk, hnew, hnn, hnb, hap⟩, hF⟩
  dsimp only at hk hnew hnn hnb hap hF ⊢
  rcases Nat.lt_or_ge nw.length l'.length with hkn | hkn
  · obtain ⟨p, hp⟩ : ∃ p, l'[nw.length]? = some p := ⟨_, List.getElem?_eq_getElem hkn⟩
    have hpl := hrow p (List.mem_of_getElem? hp)
    rcases pb with _ | ⟨bp, cp, zp⟩
    · have e : l' = [] := hpb
      subst e
      simp at hkn
    obtain ⟨hb0, hbc, hbz, hbo⟩ := hpb
    generalize hls : nw ++ l'.drop nw.length = ls at hF
    have hll : ls.length = l'.length := by rw [← hls, List.length_append, List.length_drop]; omega
    have hget : ls[nw.length]? = some p := by rw [← hls, List.getElem?_append_right (Nat.le_refl _), Nat.sub_self, List.getElem?_drop, Nat.add_zero]; exact hp
    have hget2 : ∀ y, (ls.set nw.length (p.1, y))[nw.length]? = some (p.1, y) := fun y => List.getElem?_set_self (by omega)
    have hsl : ∀ y, (ls.set nw.length (p.1, y)).length = l'.length := fun y => by rw [List.length_set, hll]
    have hlk : lkp (apl i l nw) (i, p.1.2) = lkp l (i, p.1.2) := apl_lkp i hn fun q hq e => by
      have h3 : q.1 ∈ (l'.take nw.length).map (·.1) := by rw [← hnew.keys]; exact List.mem_map.2 ⟨q, hq, rfl⟩
      obtain ⟨q', hq', e'⟩ := List.mem_map.1 h3
      have h4 : q'.1 = p.1 := by
        have a1 := (hrow q' (List.mem_of_mem_take hq')).2
        have a2 := hpl.2
        rw [e'] at a1 ⊢
        exact Prod.ext (a1.trans a2.symm) e
      exact take_notin hnl hp (h4 ▸ List.mem_map.2 ⟨q', hq', rfl⟩)
    obtain ⟨hd, hhd⟩ : ∃ hd, (lkp l (i, p.1.2)).isSome = hd := ⟨_, rfl⟩
    have hzj : zv l (j, p.1.2) = ival p.2 := zv_some (lkp_of_mem hn (by have a1 := hpl.1; have a2 := hpl.2; rw [← a2]; exact a1))
    have hrz : ∀ y, ival y = kv * ival p.2 + ival (at0 l (i, p.1.2)) → rowZ l i j kv (i, p.1.2) = ival y := fun y e => by
      unfold rowZ
      simp only [if_true]
      rw [hzj, e, Int.add_comm]; rfl
    have hset : ∀ u, ls.set nw.length u = (nw ++ [u]) ++ l'.drop (nw ++ [u]).length := fun u => by
      rw [← hls, List.set_append_right _ _ (Nat.le_refl _), Nat.sub_self, List.drop_eq_getElem_cons hkn, List.set_cons_zero, List.length_append]
      simp
    have hnext : ∀ (y : IV) (n' : Int), Nw w.heap.size y → ival y = kv * ival p.2 + ival (at0 l (i, p.1.2)) → ¬ bigZ (ival y) → n' = n - (if hd then 1 else 0) + (if ival y ≠ 0 then 1 else 0) →
        ((nw ++ [(p.1, y)]).length ≤ l'.length ∧ NewR l i kv (l'.take (nw ++ [(p.1, y)]).length) (nw ++ [(p.1, y)]) ∧ n' = ((apl i l (nw ++ [(p.1, y)])).length : Int) ∧ (∀ q ∈ nw ++ [(p.1, y)], ¬ bigZ (ival q.2) ∧ Nw w.heap.size q.2) ∧ (apl i l (nw ++ [(p.1, y)])).length ≤ l.length + (nw ++ [(p.1, y)]).length) := fun y n' hN e hb he => by
      have h5 := putL_len (apl i l nw) (i, p.1.2) y
      rw [hlk, hhd] at h5
      have e2 : (nw ++ [(p.1, y)]).length = nw.length + 1 := by simp
      rw [e2, apl_snoc, take_snoc hp]
      refine ⟨hkn, hnew.snoc e, ?_, fun q hq => ?_, ?_⟩
      · rw [he, hnn]; exact h5.symm
      · rcases List.mem_append.1 hq with hq | hq
        · exact hnb q hq
        · simp only [List.mem_cons, List.not_mem_nil, or_false] at hq
          subst hq; exact ⟨hb, hN⟩
      · dsimp only at h5 ⊢
        (repeat' split at h5) <;> omega
    cases hd
    · repeat' (first | (refine TL.isOp ?_; first | (refine TL.isCall ?_; refine TL.call rfl rfl ?_; first | (refine (zmulAddP _ ⟨xn, ⟨xA, xk, xc, xl⟩⟩ p.2 (at0 l (i, p.1.2)) (Fr.gi hF (by repeat (first | exact memH | apply memT))) (Fr.gv (l := l) hF (by repeat (first | exact memH | apply memT)) p hpl.1).1.g (gv_at (Fr.gv (l := l) hF (by repeat (first | exact memH | apply memT))) (i, p.1.2)).1 (by dsimp only; omega) (Nat.le_trans (Fr.gv (l := l) hF (by repeat (first | exact memH | apply memT)) p hpl.1).2 (by decide)) (Nat.le_trans (gv_at (Fr.gv (l := l) hF (by repeat (first | exact memH | apply memT))) (i, p.1.2)).2 (by decide))).mono ?_; rintro _ wy ⟨y, rfl, hy, hE, hyn, hOy⟩; have hNy := (Nw.of (x := y) hOy).mono hF.exs.size; clear hOy; have hyn2 : y.m.n ≤ 1099511627776 := (by have a1 := (Fr.gv (l := l) hF (by repeat (first | exact memH | apply memT)) p hpl.1).2; have a2 := (gv_at (Fr.gv (l := l) hF (by repeat (first | exact memH | apply memT))) (i, p.1.2)).2; dsimp only at hyn; omega); have hyv := hy.val; rw [hkv] at hyv; replace hF := Fr.addLI (hF.exts hE) (hy.val.symm ▸ hy); clear hE hy hyn; refine Back.mk ?_) | (refine (zsign_ok _ y (Fr.li hF (x := y) (z := ival y) (by repeat (first | exact memH | apply memT))).g hyn2).mono ?_; rintro _ wy ⟨rfl, hE⟩; replace hF := hF.exts hE; clear hE; refine Back.mk ?_) | (by_cases hbig : bigZ (ival y); refine (long_t _ y (Fr.li hF (x := y) (z := ival y) (by repeat (first | exact memH | apply memT))).g hyn2 hbig).mono ?_; rintro _ wy ⟨rfl, hE⟩; replace hF := hF.exts hE; clear hE; refine Back.mk ?_; rotate_left 1; refine (long_f _ y (Fr.li hF (x := y) (z := ival y) (by repeat (first | exact memH | apply memT))).g hyn2 hbig).mono ?_; rintro _ wy ⟨rfl, hE⟩; replace hF := hF.exts hE; clear hE; refine Back.mk ?_)) | (refine TL.isBin ?_; refine TL.cmpG rfl rfl rfl rfl (fun hc => ?_) (fun hc => ?_) <;> (try (first | (exfalso; omega) | exact absurd rfl hc))) | (apply TL.ev; (case hd => rfl); (case h => (first | exact ev_simple rfl | (apply Ev.isBin; first | exact ev_arN rfl rfl rfl (by omega) | exact ev_arI rfl rfl rfl (by omega)) | (apply Ev.isLoad; first | exact ev_loadAFr hF rfl (by refine ⟨?_, ?_⟩; (focus (repeat (first | exact InV.head | apply InV.tail))); rfl) | exact ev_loadMc [.int .i64 p.1.1, .int .i64 p.1.2, .bool p.2.neg, .slice p.2.m.A p.2.m.n p.2.m.c] rfl (pb_sm hF (by repeat (first | exact InV.head | apply InV.tail)) hll hbc) hget rfl | exact ev_loadMS rfl (pb_sm hF (by repeat (first | exact InV.head | apply InV.tail)) (hsl y) hbc) (hget2 y) rfl) | exact ev_fieldAddr rfl | exact ev_mlookOkI hF (l := l) (y := (i, p.1.2)) rfl rfl (by repeat (first | exact memH | apply memT)) hhd | exact ev_indexM rfl rfl hkn (.inr rfl) | exact ev_fieldAddrE rfl rfl))) | (refine TL.storeAFr hF rfl rfl rfl rfl (by refine ⟨?_, ?_⟩; (focus (repeat (first | apply SetV.head | apply SetV.tail))); rfl) rfl ?_; clear hF; intro ws hF) | (refine TL.allocFr hF (d := 12) rfl rfl ?_; clear hF; intro w12 b12 hF) | (refine TL.allocFr hF (d := 13) rfl rfl ?_; clear hF; intro w13 b13 hF) | (refine TL.storePl hF (l := ls) (p := p) y rfl rfl hget hbo (by repeat (first | exact SetV.head | apply SetV.tail)) ?_; clear hF; intro ws hF)) | (refine TF.is ?_; first | refine TF.nil ?_ | refine TF.e rfl ?_ | refine TF.alt ?_ ?_ | (refine TF.pick rfl ?_; first | (apply TFo.ev; (case hd => rfl); (case h => (intro wh hF; first | exact ev_simple rfl | (apply Ev.isLoad; first | exact ev_loadFr hF rfl (by refine ⟨?_, ?_⟩; (focus (repeat (first | exact InV.head | apply InV.tail))); rfl) | exact ev_loadCb hF rfl (by repeat (first | exact memH | apply memT)) rfl) | exact ev_fieldAddr rfl | exact ev_buildX rfl rfl | exact ev_nilCheck rfl))))) | (refine T.is ?_; first | refine T.seq ?_ | refine T.region ?_ | refine T.block ?_ | refine T.cond_t rfl ?_ | refine T.cond_f rfl ?_ | refine T.ret ?_ | refine T.skip ?_ | (refine T.regionFr hF 7 15 (.s 0 (.s 1 (.s 2 (.s 3 (.s 4 (.s 5 (.s 6 (.s 7 (.alt (.e 8 (.s 9 (.s 10 (.s 11 (.e 12 (.e 13 (.s 14 .nil))))))) (.e 12 (.e 8 (.s 9 (.s 10 (.s 11 (.e 13 (.s 14 .nil)))))))))))))))) mixed (by kernel_rfl) ?_; clear hF; intro wr hF)) | (refine G.is ?_; first | refine G.next ?_ | refine G.blockN ?_ | refine G.blockR ?_ | refine G.thenR ?_ | refine G.only ?_ | refine G.tree rfl (by first | exact hF | exact hF.weak (List.sublist_append_right _ _) (by repeat (first | exact allR | apply allT)) | exact hF.weak (by repeat (first | exact List.Sublist.refl _ | apply List.Sublist.cons)) (by repeat (first | exact allR | apply allT)) | exact hF.weak (by repeat (first | exact List.Sublist.refl _ | apply List.Sublist.cons)) (by repeat (first | exact allN | refine allH (by repeat (first | exact memH | apply memT)) ?_))) ?_) | refine TL.nil ?_)
      all_goals first
      | exact G.ret1 rfl rfl ⟨5, l, ⟨rfl, hF.exs, hF.gr (by repeat (first | exact memH | apply memT)) (by repeat (first | exact memH | apply memT)) (by repeat (first | exact memH | apply memT))⟩, fun p hp => .inl ⟨p, hp, rfl⟩, .inl ⟨rfl, rfl, .inl ⟨(i, p.1.2), (hrz y hyv).symm ▸ hbig⟩⟩⟩
      | (have hs0 : ival y ≠ 0 := fun e => hc (show sig (ival y) = 0 from e.symm ▸ rfl)
         have hnx := hnext y (n + 1) hNy hyv hbig (by simp only [if_true, Bool.false_eq_true, if_false]; rw [if_pos hs0] <;> omega)
         have hF2 := (Fr.gvSnoc hF (lo := nw) (q := p.1) (by repeat (first | exact memH | apply memT)) (Fr.li hF (x := y) (z := ival y) (by repeat (first | exact memH | apply memT))) (few_of (Fr.li hF (x := y) (z := ival y) (by repeat (first | exact memH | apply memT))) hbig))
         rw [hset] at hF2
         refine G.again (nw ++ [(p.1, y)], n + 1) ?_ ⟨hnx, hF2.weak (.cons _ (.cons _ (.refl _))) (allH (by repeat (first | exact memH | apply memT)) (allH (by repeat (first | exact memH | apply memT)) (allH (by repeat (first | exact memH | apply memT)) (allH (by repeat (first | exact memH | apply memT)) (allH (by repeat (first | exact memH | apply memT)) allN)))))⟩ (by simp only [List.length_append, List.length_cons, List.length_nil]; omega)
         dsimp only
         rw [List.length_append]
         exact (by repeat (first | exact Sub.nil _ | refine Sub.cons rfl ?_ | refine Sub.cons' rfl (int_congr (by omega)) ?_)))
      | (have hs0 : ival y = 0 := sig_zero hc
         have hnx := hnext y (n) hNy hyv hbig (by simp only [if_true, Bool.false_eq_true, if_false]; rw [if_neg (fun h => h hs0)] <;> omega)
         have hF2 := (Fr.gvSnoc hF (lo := nw) (q := p.1) (by repeat (first | exact memH | apply memT)) (Fr.li hF (x := y) (z := ival y) (by repeat (first | exact memH | apply memT))) (few_of (Fr.li hF (x := y) (z := ival y) (by repeat (first | exact memH | apply memT))) hbig))
         rw [hset] at hF2
         refine G.again (nw ++ [(p.1, y)], n) ?_ ⟨hnx, hF2.weak (.cons _ (.cons _ (.refl _))) (allH (by repeat (first | exact memH | apply memT)) (allH (by repeat (first | exact memH | apply memT)) (allH (by repeat (first | exact memH | apply memT)) (allH (by repeat (first | exact memH | apply memT)) (allH (by repeat (first | exact memH | apply memT)) allN)))))⟩ (by simp only [List.length_append, List.length_cons, List.length_nil]; omega)
         dsimp only
         rw [List.length_append]
         exact (by repeat (first | exact Sub.nil _ | refine Sub.cons rfl ?_ | refine Sub.cons' rfl (int_congr (by omega)) ?_)))
    · repeat' (first | (refine TL.isOp ?_; first | (refine TL.isCall ?_; refine TL.call rfl rfl ?_; first | (refine (zmulAddP _ ⟨xn, ⟨xA, xk, xc, xl⟩⟩ p.2 (at0 l (i, p.1.2)) (Fr.gi hF (by repeat (first | exact memH | apply memT))) (Fr.gv (l := l) hF (by repeat (first | exact memH | apply memT)) p hpl.1).1.g (gv_at (Fr.gv (l := l) hF (by repeat (first | exact memH | apply memT))) (i, p.1.2)).1 (by dsimp only; omega) (Nat.le_trans (Fr.gv (l := l) hF (by repeat (first | exact memH | apply memT)) p hpl.1).2 (by decide)) (Nat.le_trans (gv_at (Fr.gv (l := l) hF (by repeat (first | exact memH | apply memT))) (i, p.1.2)).2 (by decide))).mono ?_; rintro _ wy ⟨y, rfl, hy, hE, hyn, hOy⟩; have hNy := (Nw.of (x := y) hOy).mono hF.exs.size; clear hOy; have hyn2 : y.m.n ≤ 1099511627776 := (by have a1 := (Fr.gv (l := l) hF (by repeat (first | exact memH | apply memT)) p hpl.1).2; have a2 := (gv_at (Fr.gv (l := l) hF (by repeat (first | exact memH | apply memT))) (i, p.1.2)).2; dsimp only at hyn; omega); have hyv := hy.val; rw [hkv] at hyv; replace hF := Fr.addLI (hF.exts hE) (hy.val.symm ▸ hy); clear hE hy hyn; refine Back.mk ?_) | (refine (zsign_ok _ y (Fr.li hF (x := y) (z := ival y) (by repeat (first | exact memH | apply memT))).g hyn2).mono ?_; rintro _ wy ⟨rfl, hE⟩; replace hF := hF.exts hE; clear hE; refine Back.mk ?_) | (by_cases hbig : bigZ (ival y); refine (long_t _ y (Fr.li hF (x := y) (z := ival y) (by repeat (first | exact memH | apply memT))).g hyn2 hbig).mono ?_; rintro _ wy ⟨rfl, hE⟩; replace hF := hF.exts hE; clear hE; refine Back.mk ?_; rotate_left 1; refine (long_f _ y (Fr.li hF (x := y) (z := ival y) (by repeat (first | exact memH | apply memT))).g hyn2 hbig).mono ?_; rintro _ wy ⟨rfl, hE⟩; replace hF := hF.exts hE; clear hE; refine Back.mk ?_)) | (refine TL.isBin ?_; refine TL.cmpG rfl rfl rfl rfl (fun hc => ?_) (fun hc => ?_) <;> (try (first | (exfalso; omega) | exact absurd rfl hc))) | (apply TL.ev; (case hd => rfl); (case h => (first | exact ev_simple rfl | (apply Ev.isBin; first | exact ev_arN rfl rfl rfl (by omega) | exact ev_arI rfl rfl rfl (by omega)) | (apply Ev.isLoad; first | exact ev_loadAFr hF rfl (by refine ⟨?_, ?_⟩; (focus (repeat (first | exact InV.head | apply InV.tail))); rfl) | exact ev_loadMc [.int .i64 p.1.1, .int .i64 p.1.2, .bool p.2.neg, .slice p.2.m.A p.2.m.n p.2.m.c] rfl (pb_sm hF (by repeat (first | exact InV.head | apply InV.tail)) hll hbc) hget rfl | exact ev_loadMS rfl (pb_sm hF (by repeat (first | exact InV.head | apply InV.tail)) (hsl y) hbc) (hget2 y) rfl) | exact ev_fieldAddr rfl | exact ev_mlookOkI hF (l := l) (y := (i, p.1.2)) rfl rfl (by repeat (first | exact memH | apply memT)) hhd | exact ev_indexM rfl rfl hkn (.inr rfl) | exact ev_fieldAddrE rfl rfl))) | (refine TL.storeAFr hF rfl rfl rfl rfl (by refine ⟨?_, ?_⟩; (focus (repeat (first | apply SetV.head | apply SetV.tail))); rfl) rfl ?_; clear hF; intro ws hF) | (refine TL.allocFr hF (d := 12) rfl rfl ?_; clear hF; intro w12 b12 hF) | (refine TL.allocFr hF (d := 13) rfl rfl ?_; clear hF; intro w13 b13 hF) | (refine TL.storePl hF (l := ls) (p := p) y rfl rfl hget hbo (by repeat (first | exact SetV.head | apply SetV.tail)) ?_; clear hF; intro ws hF)) | (refine TF.is ?_; first | refine TF.nil ?_ | refine TF.e rfl ?_ | refine TF.alt ?_ ?_ | (refine TF.pick rfl ?_; first | (apply TFo.ev; (case hd => rfl); (case h => (intro wh hF; first | exact ev_simple rfl | (apply Ev.isLoad; first | exact ev_loadFr hF rfl (by refine ⟨?_, ?_⟩; (focus (repeat (first | exact InV.head | apply InV.tail))); rfl) | exact ev_loadCb hF rfl (by repeat (first | exact memH | apply memT)) rfl) | exact ev_fieldAddr rfl | exact ev_buildX rfl rfl | exact ev_nilCheck rfl))))) | (refine T.is ?_; first | refine T.seq ?_ | refine T.region ?_ | refine T.block ?_ | refine T.cond_t rfl ?_ | refine T.cond_f rfl ?_ | refine T.ret ?_ | refine T.skip ?_ | (refine T.regionFr hF 7 15 (.s 0 (.s 1 (.s 2 (.s 3 (.s 4 (.s 5 (.s 6 (.s 7 (.alt (.e 8 (.s 9 (.s 10 (.s 11 (.e 12 (.e 13 (.s 14 .nil))))))) (.e 12 (.e 8 (.s 9 (.s 10 (.s 11 (.e 13 (.s 14 .nil)))))))))))))))) mixed (by kernel_rfl) ?_; clear hF; intro wr hF)) | (refine G.is ?_; first | refine G.next ?_ | refine G.blockN ?_ | refine G.blockR ?_ | refine G.thenR ?_ | refine G.only ?_ | refine G.tree rfl (by first | exact hF | exact hF.weak (List.sublist_append_right _ _) (by repeat (first | exact allR | apply allT)) | exact hF.weak (by repeat (first | exact List.Sublist.refl _ | apply List.Sublist.cons)) (by repeat (first | exact allR | apply allT)) | exact hF.weak (by repeat (first | exact List.Sublist.refl _ | apply List.Sublist.cons)) (by repeat (first | exact allN | refine allH (by repeat (first | exact memH | apply memT)) ?_))) ?_) | refine TL.nil ?_)
      all_goals first
      | exact G.ret1 rfl rfl ⟨5, l, ⟨rfl, hF.exs, hF.gr (by repeat (first | exact memH | apply memT)) (by repeat (first | exact memH | apply memT)) (by repeat (first | exact memH | apply memT))⟩, fun p hp => .inl ⟨p, hp, rfl⟩, .inl ⟨rfl, rfl, .inl ⟨(i, p.1.2), (hrz y hyv).symm ▸ hbig⟩⟩⟩
      | (have hs0 : ival y ≠ 0 := fun e => hc (show sig (ival y) = 0 from e.symm ▸ rfl)
         have hnx := hnext y (n - 1 + 1) hNy hyv hbig (by simp only [if_true, Bool.false_eq_true, if_false]; rw [if_pos hs0] <;> omega)
         have hF2 := (Fr.gvSnoc hF (lo := nw) (q := p.1) (by repeat (first | exact memH | apply memT)) (Fr.li hF (x := y) (z := ival y) (by repeat (first | exact memH | apply memT))) (few_of (Fr.li hF (x := y) (z := ival y) (by repeat (first | exact memH | apply memT))) hbig))
         rw [hset] at hF2
         refine G.again (nw ++ [(p.1, y)], n - 1 + 1) ?_ ⟨hnx, hF2.weak (.cons _ (.cons _ (.refl _))) (allH (by repeat (first | exact memH | apply memT)) (allH (by repeat (first | exact memH | apply memT)) (allH (by repeat (first | exact memH | apply memT)) (allH (by repeat (first | exact memH | apply memT)) (allH (by repeat (first | exact memH | apply memT)) allN)))))⟩ (by simp only [List.length_append, List.length_cons, List.length_nil]; omega)
         dsimp only
         rw [List.length_append]
         exact (by repeat (first | exact Sub.nil _ | refine Sub.cons rfl ?_ | refine Sub.cons' rfl (int_congr (by omega)) ?_)))
      | (have hs0 : ival y = 0 := sig_zero hc
         have hnx := hnext y (n - 1) hNy hyv hbig (by simp only [if_true, Bool.false_eq_true, if_false]; rw [if_neg (fun h => h hs0)] <;> omega)
         have hF2 := (Fr.gvSnoc hF (lo := nw) (q := p.1) (by repeat (first | exact memH | apply memT)) (Fr.li hF (x := y) (z := ival y) (by repeat (first | exact memH | apply memT))) (few_of (Fr.li hF (x := y) (z := ival y) (by repeat (first | exact memH | apply memT))) hbig))
         rw [hset] at hF2
         refine G.again (nw ++ [(p.1, y)], n - 1) ?_ ⟨hnx, hF2.weak (.cons _ (.cons _ (.refl _))) (allH (by repeat (first | exact memH | apply memT)) (allH (by repeat (first | exact memH | apply memT)) (allH (by repeat (first | exact memH | apply memT)) (allH (by repeat (first | exact memH | apply memT)) (allH (by repeat (first | exact memH | apply memT)) allN)))))⟩ (by simp only [List.length_append, List.length_cons, List.length_nil]; omega)
         dsimp only
         rw [List.length_append]
         exact (by repeat (first | exact Sub.nil _ | refine Sub.cons rfl ?_ | refine Sub.cons' rfl (int_congr (by omega)) ?_)))
  · have hkl : nw.length = l'.length := Nat.le_antisymm hk hkn
    rw [List.take_of_length_le hkn] at hnew
    rw [List.drop_of_length_le hkn, List.append_nil] at hF
    have hF1 := Fr.lvSm hF (hpb.len hkl)
    clear hF
    have hF := hF1
    clear hF1
    rw [hkl] at hF
    have hspec := fun k => hnew.zv hn hpm k
    repeat' (first | (refine TL.isOp ?_; first | (refine TL.isBin ?_; refine TL.cmpG rfl rfl rfl rfl (fun hc => ?_) (fun hc => ?_) <;> (try (first | (exfalso; omega) | exact absurd rfl hc))) | (apply TL.ev; (case hd => rfl); (case h => (first | exact ev_simple rfl | exact ev_len rfl)))) | (refine T.is ?_; first | refine T.seq ?_ | refine T.region ?_ | refine T.block ?_ | refine T.cond_t rfl ?_ | refine T.cond_f rfl ?_ | refine T.exit ?_ | refine T.ret ?_ | refine T.skip ?_) | (refine G.is ?_; first | refine G.next ?_ | refine G.blockE ?_ | refine G.thenE ?_ | refine G.thenR ?_) | refine TL.nil ?_)
    · exact G.ret1 rfl rfl ⟨5, l, ⟨rfl, hF.exs, hF.gr (by repeat (first | exact memH | apply memT)) (by repeat (first | exact memH | apply memT)) (by repeat (first | exact memH | apply memT))⟩, fun p hp => .inl ⟨p, hp, rfl⟩, .inl ⟨rfl, rfl, .inr ⟨apl i l nw, apl_NZ i hz nw, apl_nodup i hn nw, hspec, by omega⟩⟩⟩
    refine T.loop (α := Nat) (fun k => [(0, .pointer (some ⟨g, 0, none⟩)), (1, .int .i64 i), (94, .slice (slA pb) l'.length (slC pb)), (95, .int .i64 (l'.length : Int)), (96, .int .i64 (k : Int))])
      (fun k w' => k ≤ l'.length ∧ Fr w w' [] [dpMp spot ivA m (apl i l (nw.take k)), dpSmG 4 plc (slA pb) l'.length (slC pb) nw, dpCb g 84 (grc r c m), dpGv l, dpGv nw] (fun k => k = m)) (fun k => l'.length - k) 0 (by repeat (first | exact Sub.nil _ | refine Sub.cons rfl ?_ | refine Sub.cons' rfl (int_congr (by omega)) ?_)) ⟨Nat.zero_le _, hF.weak (List.nil_sublist _) (allH (by repeat (first | exact memH | apply memT)) (allH (by repeat (first | exact memH | apply memT)) (allH (by repeat (first | exact memH | apply memT)) (allH (by repeat (first | exact memH | apply memT)) (allH (by repeat (first | exact memH | apply memT)) allN)))))⟩ ?_
    clear hF
    rintro k w2 ⟨hk2, hF⟩
    rcases Nat.lt_or_ge k l'.length with hkn2 | hkn2
    · obtain ⟨p, hp⟩ : ∃ p, nw[k]? = some p := ⟨_, List.getElem?_eq_getElem (by omega)⟩
      repeat' (first | (refine TL.isOp ?_; first | (refine TL.isCall ?_; refine TL.call rfl rfl ?_; first | (refine (gput_ok _ g m r c (apl i l (nw.take k)) (i, p.1.2) p.2 (ival p.2) (hF.grA (by repeat (first | exact memH | apply memT)) (by repeat (first | exact memH | apply memT)) (by repeat (first | exact memH | apply memT)) (nw := nw) (by repeat (first | exact memH | apply memT)) fun q hq => List.mem_of_mem_take hq) (Fr.gv (l := nw) hF (by repeat (first | exact memH | apply memT)) p (List.mem_of_getElem? hp)).1 (Fr.gv (l := nw) hF (by repeat (first | exact memH | apply memT)) p (List.mem_of_getElem? hp)).2).mono ?_; rintro _ wy ⟨rfl, hE, hGp⟩; replace hF := Fr.callMp hF hE (.inr rfl) (nfC (nf_smG (hF.sm_mp (by repeat (first | exact memH | apply memT)) (by repeat (first | exact memH | apply memT)))) (nfC (nf_cb hgm) (nfC nf_gv (nfC nf_gv nfN)))) hGp.mp; clear hE hGp; refine Back.mk ?_)) | (refine TL.isBin ?_; refine TL.cmpG rfl rfl rfl rfl (fun hc => ?_) (fun hc => ?_) <;> (try (first | (exfalso; omega) | exact absurd rfl hc))) | (apply TL.ev; (case hd => rfl); (case h => (first | exact ev_simple rfl | (apply Ev.isBin; first | exact ev_arN rfl rfl rfl (by omega)) | (apply Ev.isLoad; first | exact ev_loadFr hF rfl (by refine ⟨?_, ?_⟩; (focus (repeat (first | exact InV.head | apply InV.tail))); rfl) | exact ev_loadAFr hF rfl (by refine ⟨?_, ?_⟩; (focus (repeat (first | exact InV.head | apply InV.tail))); rfl) | exact ev_loadMc [.int .i64 p.1.1, .int .i64 p.1.2, .bool p.2.neg, .slice p.2.m.A p.2.m.n p.2.m.c] rfl (Fr.smG hF (l := nw) (by repeat (first | exact memH | apply memT))) hp rfl) | exact ev_fieldAddr rfl | exact ev_buildX rfl rfl | exact ev_indexM rfl rfl hkn2 (Fr.smG hF (l := nw) (by repeat (first | exact memH | apply memT))).some))) | (refine TL.storeAFr hF rfl rfl rfl rfl (by refine ⟨?_, ?_⟩; (focus (repeat (first | apply SetV.head | apply SetV.tail))); rfl) rfl ?_; clear hF; intro ws hF) | (refine TL.allocFr hF (d := 16) rfl rfl ?_; clear hF; intro w16 b16 hF)) | (refine T.is ?_; first | refine T.seq ?_ | refine T.region ?_ | refine T.block ?_ | refine T.cond_t rfl ?_ | refine T.skip ?_) | (refine G.is ?_; first | refine G.next ?_ | refine G.blockN ?_) | refine TL.nil ?_)
      refine G.again (k + 1) (by repeat (first | exact Sub.nil _ | refine Sub.cons rfl ?_ | refine Sub.cons' rfl (int_congr (by omega)) ?_)) ⟨hkn2, ?_⟩ (by omega)
      rw [take_snoc hp, apl_snoc]
      exact hF.weak (List.nil_sublist _) allR
    · rw [List.take_of_length_le (by omega)] at hF
      repeat' (first | (refine TL.isOp ?_; first | (refine TL.isBin ?_; refine TL.cmpG rfl rfl rfl rfl (fun hc => ?_) (fun hc => ?_) <;> (try (first | (exfalso; omega) | exact absurd rfl hc))) | (apply TL.ev; (case hd => rfl); (case h => (first | exact ev_simple rfl)))) | (refine T.is ?_; first | refine T.seq ?_ | refine T.region ?_ | refine T.cond_f rfl ?_ | refine T.exit ?_ | refine T.ret ?_) | (refine G.is ?_; first | refine G.next ?_ | refine G.blockE ?_ | refine G.thenE ?_) | refine TL.nil ?_)
      have hGe := hF.grA (i := i) (l := l) (nw' := nw) (by repeat (first | exact memH | apply memT)) (by repeat (first | exact memH | apply memT)) (by repeat (first | exact memH | apply memT)) (nw := nw) (by repeat (first | exact memH | apply memT)) fun q hq => hq
      exact G.ret1 rfl rfl ⟨0, apl i l nw, ⟨rfl, hF.exs, hGe⟩, fun p hp => (apl_mem i hp).imp (fun h => ⟨p, h, rfl⟩) (fun ⟨q, hq, e⟩ => by rw [e]; exact (hnb q hq).2), .inr ⟨rfl, apl_NZ i hz nw, by omega, hspec, fun k => by rw [← hspec]; exact gv_small hGe.vals k⟩⟩
theorem chRowP (P : Nat → Prop) (w : World) (g m r c N : Nat) (Z : ZF) (i j : Int) (x : IV) (hG : GZP P w.heap g m r c Z N) (hin : InRC r c Z) (hrc : r * c ≤ 4096) (hi : 0 ≤ i ∧ i < (r : Int)) (hj : 0 ≤ j ∧ j < (r : Int)) (hx : GI w.heap x) (hxn : x.m.n ≤ 1073741824) :
    Cl Tryz.prog 13 #[.pointer (some ⟨g, 0, none⟩), .int .i64 i, .int .i64 j, ivA x] w
      (fun e w' => ((∃ k, bigZ (rowF Z i j (ival x) k)) ∧ RetChP P w g m r c Z 5 e w') ∨ ((∀ k, ¬ bigZ (rowF Z i j (ival x) k)) ∧ RetChP P w g m r c (rowF Z i j (ival x)) 0 e w')) := by
  have hN := gz_n hG.gz hin hrc
  obtain ⟨l, hGr, hz, rfl, hv, hw⟩ := hG
  refine (garow_okP w g m r c l i j x hGr hN hz hi hj hx hxn).mono ?_
  have ez : rowZ l i j (ival x) = rowF Z i j (ival x) := funext fun k => rowZ_eq hv i j _ k
  rw [ez]
  rintro e w' ⟨er, l2, ⟨rfl, hE, hG2⟩, hnw, hr⟩
  have hw2 : WP (fun k => P k ∨ w.heap.size ≤ k) l2 := fun p hp k hk => by
    rcases hnw p hp with ⟨q, hq, e⟩ | h
    · rw [e] at hk; exact .inl (hw q hq k hk)
    · exact .inr (h k hk)
  rcases hr with ⟨rfl, rfl, hr⟩ | ⟨rfl, hz2, hl2, hv2, hb2⟩
  · exact .inl ⟨refu_big (rowF_in hin hi) hrc hr, _, rfl, hE, _, hG2, hz, rfl, hv, hw2⟩
  · exact .inr ⟨hb2, _, rfl, hE, l2, hG2, hz2, rfl, hv2, hw2⟩
end Go.Proofs.YtlpheckjogphmaaGreat
set_option linter.unusedSectionVars false
namespace Go.Eng
open Go Go.Proofs Go.NatM Go.RowKit Go.Proofs.YtlpheckjogphmaaGreat
section
variable {S : Nat → Prop} {w0 w w' : World} {L : List VB} {D : List DP}
theorem Fr.it_owL {K V : Type} [DecidableEq K] {f : K → Value} {g' : V → Value} {r b : Nat} {l done todo : List (K × V)} {lo : Nat} {li : List IV} (hF : Fr w0 w L D S) (h : dpIt f g' r b l done todo ∈ D) (h2 : dpOwL lo li ∈ D) : ∀ x ∈ li, ¬ blk x.m.A r := by
  obtain ⟨c, s, h1⟩ := hF.it_at h
  exact owL_notmap (hF.owL h2) h1 rfl
end
end Go.Eng
namespace Go.Proofs.YtlpheckjogphmaaGreat
open Go Go.Eng Go.Proofs Go.NatM Go.RowKit
theorem OwL.snocP {w w' : World} {lo : Nat} {ls : GL} {q : Int × Int} {y : IV} (h : OwL w.heap lo (ls.map (·.2))) (hE : Ext w w') (hO : Ow u64v w'.heap w.heap.size 64 y.m.A y.m.n y.m.c y.m.l) (hl : lo ≤ w.heap.size) : OwL w'.heap lo ((ls ++ [(q, y)]).map (·.2)) := by
  rw [List.map_append]
  exact OwL.app (h.ext hE) (OwL.of1 hO) h (Nat.le_refl _) hl
theorem OwL.sub {H : Array Obj} {lo : Nat} {l l' : List IV} (h : OwL H lo l) (hs : l'.Sublist l) : OwL H lo l' := ⟨fun x hx => h.1 x (hs.subset hx), h.2.sublist hs⟩
theorem OwL.moved {H : Array Obj} {lo : Nat} {lz : List IV} {l1 : GL} {i q : Nat} {p : (Int × Int) × IV} (h : OwL H lo (lz ++ (l1.drop i).map (·.2))) (hp : l1[i]? = some p) (hq : q < lz.length) : OwL H lo (lz.set q p.2 ++ (l1.drop (i + 1)).map (·.2)) := by
  obtain ⟨hi, he⟩ := List.getElem?_eq_some_iff.1 hp
  rw [List.drop_eq_getElem_cons hi, he, List.map_cons] at h
  rw [List.set_eq_take_append_cons_drop, if_pos hq]
  have h1 : (lz.take q ++ lz.drop (q + 1)).Sublist lz := by
    have h2 := List.take_append_drop q lz
    have h3 : (lz.take q ++ lz.drop (q + 1)).Sublist (lz.take q ++ lz.drop q) := (List.Sublist.refl _).append (by rw [List.drop_eq_getElem_cons hq]; exact List.sublist_cons_self _ _)
    rwa [h2] at h3
  have h2 := h.sub (h1.append (List.Sublist.refl (p.2 :: (l1.drop (i + 1)).map (·.2))))
  refine h2.perm ?_
  rw [List.append_assoc, List.append_assoc, List.cons_append]
  refine List.Perm.append_left _ ?_
  exact List.perm_middle
def RetZIP (w : World) (z : Int) (er : Int) (e : Ending) (w' : World) : Prop := ∃ x : IV, e = .returned (.tuple #[ivA x, .int .i64 er]) ∧ LI w'.heap z x ∧ Ext w w' ∧ x.m.n ≤ 16384 ∧ Ow u64v w'.heap w.heap.size 64 x.m.A x.m.n x.m.c x.m.l
theorem gget_okP (w : World) (g m r c : Nat) (l : GL) (p1 p2 : Int) (hG : Gr w.heap g m r c l) (hp : (0 ≤ p1 ∧ p1 < (r : Int)) ∧ (0 ≤ p2 ∧ p2 < (c : Int))) :
    Cl Tryz.prog 21 #[.pointer (some ⟨g, 0, none⟩), .int .i64 p1, .int .i64 p2] w (RetZIP w (ival (at0 l (p1, p2))) 0) := by
  obtain ⟨hX, hn⟩ := gv_at hG.vals (p1, p2)
  have hF := Gr.frD hG (Fr.mt (Fr.refS w fun _ => False) (dpGI (at0 l (p1, p2))) (by unfold dpGI; exact hX))
  clear hG hX
  have h1 := fun w1 => in_t w1 p1 r hp.1
  have h2 := fun w1 => in_t w1 p2 c hp.2
  have hz := fun w1 (g1 : GI w1.heap (at0 l (p1, p2))) => zleastO w1 _ g1 (by omega)
  clear hp
  refine enter Tryz.func21 rfl rfl rfl ?_
  repeat' (first | (refine TL.isOp ?_; first | (refine TL.isG ?_; first | refine TL.grun rfl rfl rfl ?_) | (refine TL.isCall ?_; refine TL.call rfl rfl ?_; first | (refine (h1 _).mono ?_; rintro _ wy ⟨rfl, hE⟩; replace hF := hF.exts hE; clear hE; refine Back.mk ?_) | (refine (h2 _).mono ?_; rintro _ wy ⟨rfl, hE⟩; replace hF := hF.exts hE; clear hE; refine Back.mk ?_) | (refine (hz _ (Fr.gi hF (by repeat (first | exact memH | apply memT)))).mono ?_; rintro _ wy ⟨y, rfl, hy, hE, hyn, hOy⟩; replace hF := Fr.addLI (Fr.addOw (lo := w.heap.size) hF hE hOy hF.exs.size) hy; clear hE hy hOy; refine Back.mk ?_)) | (apply TL.ev; (case hd => rfl); (case h => (first | exact ev_simple rfl | (apply Ev.isBin; first | exact ev_eqlP rfl rfl rfl) | (apply Ev.isLoad; first | exact ev_loadCb hF rfl (by repeat (first | exact memH | apply memT)) rfl) | exact ev_fieldAddr rfl | exact ev_buildX rfl rfl | exact ev_nilCheck rfl | exact ev_mlookI hF (y := (p1, p2)) rfl rfl (by repeat (first | exact memH | apply memT))))) | (refine TL.storeAFr hF rfl rfl rfl rfl (by refine ⟨?_, ?_⟩; (focus (repeat (first | apply SetV.head | apply SetV.tail))); rfl) rfl ?_; clear hF; intro ws hF) | (refine TL.allocFr hF (d := 6) rfl rfl ?_; clear hF; intro w6 b6 hF)) | (refine T.is ?_; first | refine T.seq ?_ | refine T.region ?_ | refine T.cond_f rfl ?_ | refine T.ret ?_ | refine T.skip ?_) | (refine G.is ?_; first | refine G.next ?_) | refine TL.nil ?_)
  all_goals exact G.retC2 rfl rfl rfl (held_agg (hF.var (by repeat (first | exact InV.head | apply InV.tail))) rfl) ⟨y, rfl, Fr.li hF (by repeat (first | exact memH | apply memT)), hF.ext, Nat.le_trans hyn hn, Fr.ow hF (by repeat (first | exact memH | apply memT))⟩
theorem getP (w : World) (g m r c N : Nat) (Z : Int × Int → Int) (p1 p2 : Int) (hG : GZ w.heap g m r c Z N) (hp : (0 ≤ p1 ∧ p1 < (r : Int)) ∧ (0 ≤ p2 ∧ p2 < (c : Int))) :
    Cl Tryz.prog 21 #[.pointer (some ⟨g, 0, none⟩), .int .i64 p1, .int .i64 p2] w (RetZIP w (Z (p1, p2)) 0) := by
  obtain ⟨l, hG, hz, hN, hv⟩ := hG
  rw [← hv]
  exact gget_okP w g m r c l p1 p2 hG hp
def RetPcP (w : World) (l : GL) (e : Ending) (w' : World) : Prop := ∃ (ls : GL) (b c : Nat) (zs : List Value), e = .returned (.slice (some ⟨b, 0, none⟩) ls.length c) ∧ (c = ls.length ∧ zs.length = (c - ls.length) * 4 ∧ zs.all noU64 = true) ∧ Fr w w' [⟨b, 57, ls.flatMap plc ++ zs⟩] [dpGv ls] ∧ SortedPl ls ∧ (ls.map (·.1)).Nodup ∧ ls.length = l.length ∧ (∀ k, zk ls k = zk l k) ∧ OwL w'.heap w.heap.size (ls.map (·.2))
theorem gplaces_okP (hSort : SortOk) (w : World) (g m r c : Nat) (l : GL) (hG : Gr w.heap g m r c l) (hl : l.length ≤ 1048576) : Cl Tryz.prog 16 #[.pointer (some ⟨g, 0, none⟩)] w (RetPcP w l) := by
  have hn : (l.map (·.1)).Nodup := by obtain ⟨es, k, _, h⟩ := hG.mp; exact h.keys
  have hF := Gr.frD hG (Fr.refS w fun _ => False)
  have hgm := hG.ne
  clear hG
  refine enter Tryz.func16 rfl rfl rfl ?_
  repeat' (first | (refine TL.isOp ?_; first | (apply TL.ev; (case hd => rfl); (case h => (first | exact ev_simple rfl | (apply Ev.isBin; first | exact ev_eqlP rfl rfl rfl) | (apply Ev.isLoad; first | exact ev_loadCb hF rfl (by repeat (first | exact memH | apply memT)) rfl) | exact ev_fieldAddr rfl | exact ev_nilCheck rfl | exact ev_mlen hF rfl (by repeat (first | exact memH | apply memT))))) | (refine TL.makeFr hF (f := plc) ((0, 0), iv0) rfl rfl rfl (Nat.zero_le _) (by omega) rfl rfl rfl ?_; clear hF; intro w13 b13 hF) | (refine TL.rangeFr (f := spot) (g := ivA) (l := l) hF rfl (by repeat (first | exact memH | apply memT)) rfl ?_; have hr := hF.exs.size; clear hF; intro wr rr er hF; replace hr := Nat.le_trans hr (Nat.le_of_eq er.symm); clear er)) | (refine T.is ?_; first | refine T.seq ?_ | refine T.region ?_ | refine T.block ?_ | refine T.cond_f rfl ?_ | refine T.skip ?_) | (refine G.is ?_; first | refine G.next ?_) | refine TL.nil ?_)
  have hmr := hF.it_mp (m := m) (l2 := l) (by repeat (first | exact memH | apply memT)) (by repeat (first | exact memH | apply memT))
  have hgr := hF.it_cb (g := g) (cs := grc r c m) (by repeat (first | exact memH | apply memT)) (by repeat (first | exact memH | apply memT))
  have hzl : ((List.replicate l.length (((0, 0), iv0) : (Int × Int) × IV)).flatMap plc).length = (l.length - ([] : GL).length) * 4 := by rw [flatMap_len (f := plc) (k := 4) fun _ _ => rfl]; simp
  have hzn : ((List.replicate l.length (((0, 0), iv0) : (Int × Int) × IV)).flatMap plc).all noU64 = true := by have := plc_no (List.replicate l.length (((0, 0), iv0) : (Int × Int) × IV)) (zs := []) rfl; rwa [List.append_nil] at this
  refine T.loop (α := GL × GL × GL × List Value) (fun x => [(3, .slice (some ⟨b13, 0, none⟩) x.2.2.1.length l.length), (18, .pointer (some ⟨rr, 0, none⟩))])
    (fun x w' => l.Perm (x.1 ++ x.2.1) ∧ (Lk idk x.1 x.2.2.1 ∧ x.2.2.2.length = (l.length - x.2.2.1.length) * 4 ∧ x.2.2.2.all noU64 = true) ∧ Fr w w' [⟨b13, 57, x.2.2.1.flatMap plc ++ x.2.2.2⟩] [dpIt spot ivA rr m l x.1 x.2.1, dpMp spot ivA m l, dpCb g 84 (grc r c m), dpGv l, dpGv x.2.2.1, dpOwL w.heap.size (x.2.2.1.map (·.2))]) (fun x => x.2.1.length) ([], l, [], (List.replicate l.length (((0, 0), iv0) : (Int × Int) × IV)).flatMap plc) (by repeat (first | exact Sub.nil _ | refine Sub.cons rfl ?_ | refine Sub.cons' rfl (int_congr (by omega)) ?_)) ⟨List.Perm.refl _, ⟨rfl, hzl, hzn⟩, by
      have h0 := (Fr.addGv hF (l := []) fun p hp => (by cases hp)).addOwL (OwL.nil _ w.heap.size)
      exact h0.weak (List.Sublist.refl _) (allH (by repeat (first | exact memH | apply memT)) (allH (by repeat (first | exact memH | apply memT)) (allH (by repeat (first | exact memH | apply memT)) (allH (by repeat (first | exact memH | apply memT)) (allH (by repeat (first | exact memH | apply memT)) (allH (by repeat (first | exact memH | apply memT)) allN))))))⟩ ?_
  clear hF hzl hzn
  rintro ⟨done, todo, ls, zs⟩ w1 ⟨hp, ⟨hlk, hzl, hzn⟩, hF⟩
  dsimp only at hp hlk hzl hzn hF ⊢
  have hpl := hp.length_eq
  rw [List.length_append] at hpl
  have hll := hlk.len
  have hnd : (ls.map (·.1)).Nodup := by
    rw [hlk.keys]
    have h1 : ((done ++ todo).map (·.1)).Nodup := ((hp.map _).nodup_iff).1 hn
    rw [List.map_append] at h1
    exact (List.nodup_append.1 h1).1
  have hro := Fr.it_owL hF (r := rr) (b := m) (l := l) (done := done) (todo := todo) (lo := w.heap.size) (li := ls.map (·.2)) (by repeat (first | exact memH | apply memT)) (by repeat (first | exact memH | apply memT))
  repeat' (first | (refine TL.isOp ?_; first | (refine TL.isCall ?_; refine TL.call rfl rfl ?_; first | (refine (zleastO _ p.2 (Fr.gv (l := l) hF (by repeat (first | exact memH | apply memT)) p (pm_mem hp ht)).1.g (Nat.le_trans (Fr.gv (l := l) hF (by repeat (first | exact memH | apply memT)) p (pm_mem hp ht)).2 (by decide))).mono ?_; rintro _ wy ⟨y, rfl, hy, hE, hyn, hOy⟩; have hyn2 := Nat.le_trans hyn (Fr.gv (l := l) hF (by repeat (first | exact memH | apply memT)) p (pm_mem hp ht)).2; have hyv := hy.val; have hOl := OwL.snocP (q := idk p.1) (Fr.owL hF (lo := w.heap.size) (l := ls.map (·.2)) (by repeat (first | exact memH | apply memT))) hE hOy hF.exs.size; replace hF := (Fr.addLI (hF.exts hE) hy).addOwL hOl; clear hE hy hyn hOy hOl; refine Back.mk ?_) | (refine (hSort _ b13 l.length ls zs (hF.var .head) (by omega) hnd).mono ?_; rintro _ wy ⟨rfl, ls', hpls, hso, hV', hE⟩; replace hF := hF.wroteV (plc_no _ hzn) hE hV'; clear hE hV'; rw [← hpls.length_eq]; refine Back.mk ?_)) | (apply TL.ev; (case hd => rfl); (case h => (first | exact ev_simple rfl | exact ev_entry hF (by repeat (first | exact memH | apply memT)) rfl))) | (refine TL.storeAFr hF rfl rfl rfl rfl (by refine ⟨?_, ?_⟩; (focus (repeat (first | apply SetV.head | apply SetV.tail))); rfl) rfl ?_; clear hF; intro ws hF) | (refine TL.nextFr hF (.inl hr) (nfC (nf_mp hmr) (nfC (nf_cb hgr) (nfC nf_gv (nfC nf_gv (nfC (nf_owL hro) nfN))))) rfl rfl (fun h0 wn hFn => ?_) (fun p todo' wn ht hFn => ?_) <;> clear hF <;> have hF := hFn <;> clear hFn) | (refine TL.allocFr hF (d := 4) rfl rfl ?_; clear hF; intro w4 b4 hF) | (refine TL.allocFr hF (d := 5) rfl rfl ?_; clear hF; intro w5 b5 hF) | (refine TL.buildXs hF (f := plc) (d := 32) [(p.1, y)] [.tmp 31] rfl rfl rfl rfl (by intro u hu; rfl) rfl rfl (by omega) (by omega) ?_; clear hF; intro w32 b32 hF hEn hbn hSn) | (refine TL.appendAtFr (f := plc) (l := ls) (zs := zs) hF rfl rfl rfl rfl hSn (fun _ => rfl) (fun _ => rfl) rfl rfl rfl hzl (by omega) (plc_no _ hzn) (by omega) (by repeat (first | exact SetV.head | apply SetV.tail)) (fun hle wa hFn => ?_) (fun hgt wa ba ca za hca hza hzan hFn => ?_) <;> clear hF hSn <;> have hF := hFn <;> clear hFn)) | (refine TF.is ?_; first | refine TF.nil ?_ | refine TF.e rfl ?_ | (refine TF.pick rfl ?_; first | (apply TFo.ev; (case hd => rfl); (case h => (intro wh hF; first | exact ev_simple rfl | (apply Ev.isLoad; first | exact ev_loadFr hF rfl (by refine ⟨?_, ?_⟩; (focus (repeat (first | exact InV.head | apply InV.tail))); rfl) | exact ev_loadAFr hF rfl (by refine ⟨?_, ?_⟩; (focus (repeat (first | exact InV.head | apply InV.tail))); rfl)) | exact ev_fieldAddr rfl | exact ev_buildX rfl rfl))))) | (refine T.is ?_; first | refine T.seq ?_ | refine T.region ?_ | refine T.block ?_ | refine T.cond_t rfl ?_ | refine T.cond_f rfl ?_ | refine T.exit ?_ | refine T.ret ?_ | refine T.skip ?_ | (refine T.regionFt (Fr.rotL hF) 7 11 (.s 0 (.s 1 (.s 2 (.s 3 (.s 4 (.s 5 (.e 6 (.s 7 (.e 8 (.e 9 (.s 10 .nil))))))))))) mixed (by kernel_rfl) ?_; clear hF; intro wr hF)) | (refine G.is ?_; first | refine G.next ?_ | refine G.blockN ?_ | refine G.blockE ?_ | refine G.thenE ?_ | refine G.only ?_ | refine G.tree rfl (by first | exact hF | exact hF.weak (List.sublist_append_right _ _) (by repeat (first | exact allR | apply allT)) | exact hF.weak (by repeat (first | exact List.Sublist.refl _ | apply List.Sublist.cons)) (by repeat (first | exact allR | apply allT)) | exact hF.weak (by repeat (first | exact List.Sublist.refl _ | apply List.Sublist.cons)) (by repeat (first | exact allN | refine allH (by repeat (first | exact memH | apply memT)) ?_))) ?_) | refine TL.nil ?_)
  · subst h0
    rw [List.append_nil] at hp
    have hgv := Fr.gv (l := ls) hF (by repeat (first | exact memH | apply memT))
    have hOp := (Fr.owL hF (lo := w.heap.size) (l := ls.map (·.2)) (by repeat (first | exact memH | apply memT))).perm (hpls.symm.map (·.2))
    have hF2 := Fr.addGv hF (l := ls') fun p hp => hgv p (hpls.mem_iff.1 hp)
    have hlen := hpls.length_eq
    have hdl := hp.length_eq
    refine G.ret1 rfl rfl ⟨ls', b13, l.length, zs, rfl, ⟨by omega, by rw [hlen]; exact hzl, hzn⟩, hF2.weak (List.Sublist.refl _) (allH (by repeat (first | exact memH | apply memT)) allN), hso, ((hpls.map _).nodup_iff).2 hnd, by omega, fun k => ?_, hOp⟩
    have e1 := hlk.zk idk_inj k
    unfold zk at e1 ⊢
    rw [lkp_perm hn hp, ← e1, ← lkp_perm hnd hpls.symm]; rfl
  · refine G.again (done ++ [p], todo', ls ++ [(idk p.1, y)], zs.drop (1 * 4)) ?_ ⟨step_perm hp ht, ⟨hlk.snoc hyv, ?_, drop_noV hzn _⟩, ?_⟩ (step_mu ht)
    · dsimp only; rw [List.length_append]; exact (by repeat (first | exact Sub.nil _ | refine Sub.cons rfl ?_ | refine Sub.cons' rfl (int_congr (by omega)) ?_))
    · dsimp only; rw [List.length_drop, List.length_append, hzl]; simp only [List.length_cons, List.length_nil]; omega
    · exact (Fr.gvSnoc hF (lo := ls) (q := idk p.1) (by repeat (first | exact memH | apply memT)) (Fr.li hF (x := y) (z := ival p.2) (by repeat (first | exact memH | apply memT))) hyn2).weak (.cons_cons _ (List.nil_sublist _)) (allH (by repeat (first | exact memH | apply memT)) (allH (by repeat (first | exact memH | apply memT)) (allH (by repeat (first | exact memH | apply memT)) (allH (by repeat (first | exact memH | apply memT)) (allH (by repeat (first | exact memH | apply memT)) (allH (by repeat (first | exact memH | apply memT)) allN))))))
  · have := step_mu ht
    exact absurd hgt (by omega)
def RetPqP (w : World) (Z : ZF) (N : Nat) (e : Ending) (w' : World) : Prop := ∃ (ls : GL) (b : Nat), e = .returned (.slice (some ⟨b, 0, none⟩) N N) ∧ Ext w w' ∧ w.heap.size ≤ b ∧ Vr w'.heap b 57 (ls.flatMap plc) ∧ OwL w'.heap w.heap.size (ls.map (·.2)) ∧ (∀ p ∈ ls, LI w'.heap (ival p.2) p.2 ∧ p.2.m.n ≤ 16384) ∧ PlF ls Z N
theorem placesP (w : World) (g m r c N : Nat) (Z : ZF) (hG : GZ w.heap g m r c Z N) (hl : N ≤ 4096) : Cl Tryz.prog 16 #[.pointer (some ⟨g, 0, none⟩)] w (RetPqP w Z N) := by
  obtain ⟨l, hG, hz, rfl, hv⟩ := hG
  refine (gplaces_okP sort_ok w g m r c l hG (by omega)).mono ?_
  rintro e w' ⟨ls, b, c', zs, rfl, ⟨hlc, hzl, hzn⟩, hF, hso, hnd, hlen, hk, hOp⟩
  have hb := (hF.vars _ (List.mem_cons_self ..)).1.resolve_right id
  have hzv : ∀ k, zv ls k = Z k := fun k => by rw [zv_zk, hk, ← zv_zk, hv]
  rw [hlc, Nat.sub_self, Nat.zero_mul] at hzl
  have hz0 := List.eq_nil_of_length_eq_zero hzl
  subst hz0
  rw [List.append_nil] at hF
  rw [hlc, hlen]
  refine ⟨ls, b, rfl, hF.ext, hb, hF.var (b := b) (by repeat (first | exact InV.head | apply InV.tail)), hOp, Fr.gv (l := ls) hF (by repeat (first | exact memH | apply memT)), hso, hnd, fun p hp => ?_, hlen, hzv⟩
  have h1 := hk p.1
  have h2 : zk ls p.1 = some (ival p.2) := by unfold zk; rw [lkp_of_mem hnd (x := p.1) (v := p.2) hp]; rfl
  rw [h2] at h1
  unfold zk at h1
  cases hq : lkp l p.1 with
  | none => rw [hq] at h1; cases h1
  | some y =>
    rw [hq] at h1
    have e1 : ival p.2 = ival y := Option.some.inj h1
    rw [e1]
    exact hz _ (lkp_mem hq)
set_option maxRecDepth 100000 in
theorem denseP (w : World) (g m r c N : Nat) (Z : ZF) (hG : GZ w.heap g m r c Z N) (hi : InRC r c Z) (hr : r ≤ 64) (hcc : c ≤ 64) (hN : N ≤ 4096) :
    Cl Tryz.prog 15 #[.pointer (some ⟨g, 0, none⟩)] w (RetPE w r c (fun i j => Z ((i : Int), (j : Int))) 16384) := by
  have hpl := fun w1 (hE : Ext w w1) => placesP w1 g m r c N Z (hG.ext hE) hN
  obtain ⟨l, hGr, hz, hlN, hv⟩ := hG
  have hF := Gr.fr hGr fun _ => False
  clear hGr
  have hrc := mul64 hr hcc
  refine enter Tryz.func15 rfl rfl rfl ?_
  repeat' (first | (refine TL.isOp ?_; first | (refine TL.isG ?_; first | refine TL.grun rfl rfl rfl ?_) | (refine TL.isBin ?_; refine TL.cmpG rfl rfl rfl rfl (fun hc => ?_) (fun hc => ?_) <;> (try (first | (exfalso; omega) | exact absurd rfl hc))) | (apply TL.ev; (case hd => rfl); (case h => (first | exact ev_simple rfl | (apply Ev.isBin; first | exact ev_eqlP rfl rfl rfl) | (apply Ev.isLoad; first | exact ev_loadCb hF rfl (by repeat (first | exact memH | apply memT)) rfl) | exact ev_fieldAddr rfl | exact ev_nilCheck rfl))) | (refine TL.allocFr hF (d := 2) rfl rfl ?_; clear hF; intro w2 b2 hF)) | (refine T.is ?_; first | refine T.seqM 5 rfl ?_ | refine T.region ?_ | refine T.cond_f rfl ?_ | refine T.skip ?_) | (refine G.is ?_; first | refine G.next ?_) | refine TL.nil ?_)
  refine T.cut (α := Nat × List IV × Nat) (fun x => [(0, .pointer (some ⟨g, 0, none⟩)), (2, .pointer (some ⟨b2, 0, none⟩)), (4, .pointer (some ⟨x.2.2, 0, none⟩)), (5, .int .i64 0)])
    (fun x w' => x.2.1.length = r * c ∧ w.heap.size ≤ x.1 ∧ Fr w w' [⟨x.2.2, 24, [.int .i64 (r : Int), .int .i64 (c : Int), .slice (some ⟨x.1, 0, none⟩) (r * c) (r * c)]⟩, ⟨x.1, 27, x.2.1.flatMap ivc⟩, ⟨b2, 24, [.int .i64 0, .int .i64 0, .slice none 0 0]⟩] [dpLK (r * c) x.2.1 (fun _ => 0) 0, dpCb g 84 (grc r c m), dpOwL w.heap.size x.2.1]) ?_ ?_
  · repeat' (first | (refine TL.isOp ?_; first | (refine TL.isCall ?_; refine TL.call rfl rfl ?_; first | (refine (mzeroP _ r c hr hcc).mono ?_; rintro _ wz ⟨bz, lz, rfl, hVz, hlz, hgz, hE, hbz, hOz⟩; have hbz2 := Nat.le_trans hF.exs.size hbz; replace hF := (Fr.addLK (hF.newGe hbz hVz hE) (LsK.of2 hgz)).addOwL (hOz.mono hF.exs.size); clear hE hgz hVz hOz; refine Back.mk ?_)) | (refine TL.storeAFr hF rfl rfl rfl rfl (by refine ⟨?_, ?_⟩; (focus (repeat (first | apply SetV.head | apply SetV.tail))); rfl) rfl ?_; clear hF; intro ws hF) | (refine TL.allocFr hF (d := 4) rfl rfl ?_; clear hF; intro w4 b4 hF)) | (refine TF.is ?_; first | refine TF.nil ?_ | refine TF.e rfl ?_ | refine TF.alt ?_ ?_ | (refine TF.pick rfl ?_; first | (apply TFo.ev; (case hd => rfl); (case h => (intro wh hF; first | exact ev_simple rfl | (apply Ev.isLoad; first | exact ev_loadCb hF rfl (by repeat (first | exact memH | apply memT)) rfl) | exact ev_fieldAddr rfl | exact ev_nilCheck rfl))))) | (refine T.is ?_; first | (refine T.regionFr hF 5 15 (.s 0 (.s 1 (.s 2 (.s 3 (.s 4 (.s 5 (.s 6 (.s 7 (.alt (.e 8 (.s 9 (.s 10 (.s 11 (.e 12 (.e 13 (.s 14 .nil))))))) (.e 12 (.e 8 (.s 9 (.s 10 (.s 11 (.e 13 (.s 14 .nil)))))))))))))))) mixed (by kernel_rfl) ?_; clear hF; intro wr hF)) | (refine G.is ?_; first | refine G.only ?_ | refine G.tree rfl (by first | exact hF | exact hF.weak (List.sublist_append_right _ _) (by repeat (first | exact allR | apply allT)) | exact hF.weak (by repeat (first | exact List.Sublist.refl _ | apply List.Sublist.cons)) (by repeat (first | exact allR | apply allT)) | exact hF.weak (by repeat (first | exact List.Sublist.refl _ | apply List.Sublist.cons)) (by repeat (first | exact allN | refine allH (by repeat (first | exact memH | apply memT)) ?_))) ?_) | refine TL.nil ?_)
    all_goals exact G.cut (bz, lz, b4) (by repeat (first | exact Sub.nil _ | refine Sub.cons rfl ?_ | refine Sub.cons' rfl (int_congr (by omega)) ?_)) ⟨hlz, hbz2, by first | exact hF.weak (List.Sublist.refl _) (allH (by repeat (first | exact memH | apply memT)) (allH (by repeat (first | exact memH | apply memT)) (allH (by repeat (first | exact memH | apply memT)) allN))) | exact hF.swap.weak (List.Sublist.refl _) (allH (by repeat (first | exact memH | apply memT)) (allH (by repeat (first | exact memH | apply memT)) (allH (by repeat (first | exact memH | apply memT)) allN)))⟩
  clear hF
  rintro ⟨bz, lz, b4⟩ w1 ⟨hlz, hbz2, hF⟩
  dsimp only at hlz hbz2 hF ⊢
  repeat' (first | (refine TL.isOp ?_; first | (refine TL.isCall ?_; refine TL.call rfl rfl ?_; first | (refine (hpl _ hF.ext).mono ?_; rintro _ wy ⟨l1, b1, rfl, hE, hb1, hV1, hO1, hv1, hp1⟩; have hOz := OwL.app ((Fr.owL hF (lo := w.heap.size) (l := lz) (by repeat (first | exact memH | apply memT))).ext hE) hO1 (Fr.owL hF (lo := w.heap.size) (l := lz) (by repeat (first | exact memH | apply memT))) (Nat.le_refl _) hF.exs.size; have hs1 := vr_sm (f := plc) (k := 4) (zs := []) (by omega) (fun _ _ => rfl) (by rw [List.append_nil]; exact hV1) hp1.len (Nat.le_refl _) hV1.lt; replace hF := (hF.addPl hE hb1 hs1 hv1).addOwL hOz; clear hE hs1 hv1 hb1 hOz hO1 hV1; refine Back.mk ?_)) | (apply TL.ev; (case hd => rfl); (case h => (first | exact ev_simple rfl | exact ev_len rfl)))) | (refine T.is ?_; first | refine T.seq ?_ | refine T.region ?_ | refine T.block ?_) | (refine G.is ?_; first | refine G.next ?_) | refine TL.nil ?_)
  have hK0 : LsK (r * c) lz (fun q => zv (l1.take 0) (plq c q)) 16384 _ := fun q hq => ⟨((Fr.lk hF (i := r * c) (l := lz) (by repeat (first | exact memH | apply memT))) q hq).1, Nat.le_trans ((Fr.lk hF (i := r * c) (l := lz) (by repeat (first | exact memH | apply memT))) q hq).2 (Nat.zero_le _)⟩
  replace hF := (Fr.addLK hF hK0).swap
  clear hK0
  refine T.loop (α := Nat × List IV) (fun x => [(0, .pointer (some ⟨g, 0, none⟩)), (2, .pointer (some ⟨b2, 0, none⟩)), (4, .pointer (some ⟨b4, 0, none⟩)), (5, .int .i64 0), (37, .slice (some ⟨b1, 0, none⟩) N N), (38, .int .i64 (N : Int)), (39, .int .i64 (x.1 : Int))])
    (fun x w' => x.1 ≤ N ∧ x.2.length = r * c ∧ Fr w w' [⟨bz, 27, x.2.flatMap ivc⟩, ⟨b4, 24, [.int .i64 (r : Int), .int .i64 (c : Int), .slice (some ⟨bz, 0, none⟩) (r * c) (r * c)]⟩, ⟨b2, 24, [.int .i64 0, .int .i64 0, .slice none 0 0]⟩] [dpLK (r * c) x.2 (fun q => zv (l1.take x.1) (plq c q)) 16384, dpGv l1, dpSmG 4 plc (some ⟨b1, 0, none⟩) N N l1, dpCb g 84 (grc r c m), dpOwL w.heap.size (x.2 ++ (l1.drop x.1).map (·.2))]) (fun x => N - x.1) (0, lz) (by repeat (first | exact Sub.nil _ | refine Sub.cons rfl ?_ | refine Sub.cons' rfl (int_congr (by omega)) ?_)) ⟨Nat.zero_le _, hlz, hF.weak (List.Sublist.refl _) (allH (by repeat (first | exact memH | apply memT)) (allH (by repeat (first | exact memH | apply memT)) (allH (by repeat (first | exact memH | apply memT)) (allH (by repeat (first | exact memH | apply memT)) (allH (by repeat (first | exact memH | apply memT)) allN)))))⟩ ?_
  clear hF hlz lz
  rintro ⟨i, lz⟩ w3 ⟨hiN, hlz, hF⟩
  dsimp only at hiN hlz hF ⊢
  rcases Nat.lt_or_ge i N with hin | hin
  · obtain ⟨p, hp⟩ : ∃ p, l1[i]? = some p := ⟨_, List.getElem?_eq_getElem (by rw [hp1.len]; exact hin)⟩
    have hgp := Fr.gv (l := l1) hF (by repeat (first | exact memH | apply memT)) p (List.mem_of_getElem? hp)
    have hZp : Z p.1 ≠ 0 := by
      rw [← hp1.val, zv_mem hp1.nd (List.mem_of_getElem? hp)]
      exact hp1.nz p (List.mem_of_getElem? hp)
    have hrg := hi p.1 hZp
    obtain ⟨⟨p1, p2⟩, ⟨ys, ⟨yA, yn, yc, yl⟩⟩⟩ := p
    dsimp only at hrg hgp
    obtain ⟨a, rfl⟩ : ∃ a : Nat, p1 = (a : Int) := ⟨p1.toNat, by omega⟩
    obtain ⟨b, rfl⟩ : ∃ b : Nat, p2 = (b : Int) := ⟨p2.toNat, by omega⟩
    have har : a < r := by omega
    have hbc : b < c := by omega
    have hidx := place_lt har hbc
    have hac : a * c ≤ 4096 := by omega
    have hil : a * c + b < lz.length := by omega
    have hOs := (Fr.owL hF (lo := w.heap.size) (l := lz ++ (l1.drop i).map (·.2)) (by repeat (first | exact memH | apply memT))).moved hp (by omega : a * c + b < lz.length)
    replace hF := (Fr.addLI hF hgp.1).addOwL hOs
    have hgn := hgp.2
    clear hgp hZp hrg
    repeat' (first | (refine TL.isOp ?_; first | (refine TL.isBin ?_; refine TL.cmpG rfl rfl rfl rfl (fun hc => ?_) (fun hc => ?_) <;> (try (first | (exfalso; omega) | exact absurd rfl hc))) | (apply TL.ev; (case hd => rfl); (case h => (first | exact ev_simple rfl | (apply Ev.isBin; first | exact ev_arN rfl rfl rfl (by omega)) | (apply Ev.isLoad; first | exact ev_loadMc [.int .i64 (a : Int), .int .i64 (b : Int), .bool ys, .slice yA yn yc] rfl (Fr.smG hF (l := l1) (by repeat (first | exact memH | apply memT))) hp rfl) | exact ev_indexM rfl rfl hin (Fr.smG hF (l := l1) (by repeat (first | exact memH | apply memT))).some))) | (refine TL.storeAFr hF rfl rfl rfl rfl (by refine ⟨?_, ?_⟩; (focus (repeat (first | apply SetV.head | apply SetV.tail))); rfl) rfl ?_; clear hF; intro ws hF) | (refine TL.allocFr hF (d := 7) rfl rfl ?_; clear hF; intro w7 b7 hF) | (refine TL.storeAtFr hF (f := ivc) ⟨ys, ⟨yA, yn, yc, yl⟩⟩ rfl rfl rfl rfl (fun _ => rfl) hil (ivc_noV lz) (by repeat (first | apply SetV.head | apply SetV.tail)) ?_; clear hF; intro ws hF)) | (refine TF.is ?_; first | refine TF.nil ?_ | refine TF.e rfl ?_ | (refine TF.pick rfl ?_; first | (apply TFo.ev; (case hd => rfl); (case h => (intro wh hF; first | exact ev_simple rfl | (apply Ev.isBin; first | exact ev_arN rfl rfl rfl (by omega)) | (apply Ev.isLoad; first | exact ev_loadFr hF rfl (by refine ⟨?_, ?_⟩; (focus (repeat (first | exact InV.head | apply InV.tail))); rfl) | exact ev_loadAFr hF rfl (by refine ⟨?_, ?_⟩; (focus (repeat (first | exact InV.head | apply InV.tail))); rfl) | exact ev_loadCb hF rfl (by repeat (first | exact memH | apply memT)) rfl) | exact ev_fieldAddr rfl | exact ev_nilCheck rfl | exact ev_indexM rfl rfl hidx (.inr rfl)))))) | (refine T.is ?_; first | refine T.seq ?_ | refine T.region ?_ | refine T.block ?_ | refine T.cond_t rfl ?_ | refine T.skip ?_ | (refine T.regionFt hF.swap 9 15 (.s 0 (.s 1 (.s 2 (.s 3 (.s 4 (.s 5 (.s 6 (.s 7 (.s 8 (.s 9 (.s 10 (.s 11 (.s 12 (.s 13 (.s 14 (.e 15 .nil)))))))))))))))) mixed (by kernel_rfl) ?_; clear hF; intro wr hF)) | (refine G.is ?_; first | refine G.next ?_ | refine G.blockN ?_ | refine G.only ?_ | refine G.treeEnd rfl ?_) | refine TL.nil ?_)
    all_goals
      have hk := lk_put (Fr.lk hF (i := r * c) (l := lz) (by repeat (first | exact memH | apply memT))) hlz hidx (Fr.li hF (x := ⟨ys, ⟨yA, yn, yc, yl⟩⟩) (by repeat (first | exact memH | apply memT))) hgn
      rw [den_step hp1 hp hbc] at hk
      exact G.again (i + 1, lz.set (a * c + b) ⟨ys, ⟨yA, yn, yc, yl⟩⟩) (by repeat (first | exact Sub.nil _ | refine Sub.cons rfl ?_ | refine Sub.cons' rfl (int_congr (by omega)) ?_)) ⟨hin, by dsimp only; rw [List.length_set]; exact hlz, (Fr.addLK hF hk).weak (List.Sublist.cons_cons _ (List.Sublist.cons _ (List.Sublist.refl _))) (allH (by repeat (first | exact memH | apply memT)) (allH (by repeat (first | exact memH | apply memT)) (allH (by repeat (first | exact memH | apply memT)) (allH (by repeat (first | exact memH | apply memT)) (allH (by repeat (first | exact memH | apply memT)) allN)))))⟩ (by dsimp only; omega)
  · obtain rfl : i = N := by omega
    repeat' (first | (refine TL.isOp ?_; first | (refine TL.isBin ?_; refine TL.cmpG rfl rfl rfl rfl (fun hc => ?_) (fun hc => ?_) <;> (try (first | (exfalso; omega) | exact absurd rfl hc))) | (apply TL.ev; (case hd => rfl); (case h => (first | exact ev_simple rfl | (apply Ev.isLoad; first | exact ev_loadAFr hF rfl (by refine ⟨?_, ?_⟩; (focus (repeat (first | exact InV.head | apply InV.tail))); rfl))))) | (refine TL.storeAFr hF rfl rfl rfl rfl (by refine ⟨?_, ?_⟩; (focus (repeat (first | apply SetV.head | apply SetV.tail))); rfl) rfl ?_; clear hF; intro ws hF)) | (refine T.is ?_; first | refine T.seq ?_ | refine T.region ?_ | refine T.cond_f rfl ?_ | refine T.exit ?_ | refine T.ret ?_) | (refine G.is ?_; first | refine G.next ?_ | refine G.blockE ?_ | refine G.thenE ?_) | refine TL.nil ?_)
    have hVz := hF.var (b := bz) (by repeat (first | exact InV.head | apply InV.tail))
    have hlk := Fr.lk hF (i := r * c) (l := lz) (by repeat (first | exact memH | apply memT))
    have htk : l1.take i = l1 := List.take_of_length_le (by rw [hp1.len]; exact Nat.le_refl _)
    rw [htk] at hlk
    have hOe := Fr.owL hF (lo := w.heap.size) (l := lz ++ (l1.drop i).map (·.2)) (by repeat (first | exact memH | apply memT))
    rw [List.drop_of_length_le (by rw [hp1.len]; exact Nat.le_refl _), List.map_nil, List.append_nil] at hOe
    refine G.retC2 rfl rfl rfl (held_agg (hF.var (b := b2) (by repeat (first | exact InV.head | apply InV.tail))) rfl) ⟨bz, lz, rfl, hVz, hlz, fun u v hu hv2 => ?_, hF.ext, hbz2, hOe⟩
    have := hlk (u * c + v) (place_lt hu hv2)
    dsimp only at this
    rw [← (plq_iff (a := u) hv2).2 rfl, hp1.val] at this
    exact this
end Go.Proofs.YtlpheckjogphmaaGreat
set_option linter.unusedSectionVars false
namespace Go.Eng
open Go Go.Proofs Go.NatM Go.RowKit Go.Proofs.YtlpheckjogphmaaGreat
section
variable {P : Program} {N : Fm} {Q : Exit → Act → World → Prop} {σ : Go.Eng.Store} {S : Nat → Prop} {w0 w : World} {L : List VB} {D : List DP} {ops : Array Oper} {t : TypeId} {pos : String} {af : Array Edge} {rest : List Oper}
end
end Go.Eng
namespace Go.Proofs.YtlpheckjogphmaaGreat
open Go Go.Eng Go.Proofs Go.NatM Go.RowKit
end Go.Proofs.YtlpheckjogphmaaGreat
