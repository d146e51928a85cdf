/- Layer 10: the contract of Mul (printed by genmul10.py). Layer 10: contracts over grids as functions. Layer 10: small things for SparseFull: the integer -1, products of one row, doubled numbers. Layer 10: grids as functions from places to numbers, with the number of places; the contracts in these words. Layer 10: products, sums and transposes of functions with finitely many places; when they may be refused. Layer 10: product, sum, transpose and places of grids as functions. -/
import Derived.Test.YtlpheckjogphmaaPw12
import Derived.Test.YtlpheckjogphmaaPw8
set_option linter.unusedVariables false
set_option linter.unusedSimpArgs false
set_option linter.unusedSectionVars false
namespace Go.Eng
open Go Go.Proofs Go.NatM Go.RowKit Go.Proofs.Ytlpheckjogphmaa
/-- sums' integers -/
def dpSv (s : SL) (N : Nat) : DP := ⟨fun H => ∀ p ∈ s, LI H (ival p.2) p.2 ∧ p.2.m.n ≤ N, fun _ => False, fun _ _ _ h => h.elim, fun _ _ hd h p hp => ⟨(h p hp).1.de hd, (h p hp).2⟩⟩
theorem nf_sv {s : SL} {N m : Nat} : ¬ (dpSv s N).fp m := fun h => h
section
variable {P : Program} {σ : Go.Eng.Store} {do_ : Option Tmp} {t : TypeId} {pos : String} {af : Array Edge} {gd : Option (Nat × Bool)} {S : Nat → Prop} {w0 w w' : World} {L : List VB} {D : List DP}
theorem Fr.sv (hF : Fr w0 w L D S) {s : SL} {N : Nat} (h : dpSv s N ∈ D) : ∀ p ∈ s, LI w.heap (ival p.2) p.2 ∧ p.2.m.n ≤ N := hF.data _ h
theorem Fr.svPut (hF : Fr w0 w L D S) {s : SL} {N N' : Nat} (h : dpSv s N ∈ D) {j : Int} {y : IV} (hy : LI w.heap (ival y) y) (hn : y.m.n ≤ N') (hN : N ≤ N') : Fr w0 w L (dpSv (ups s j y) N' :: D) S :=
  hF.add _ (fun p hp => by
    rcases ups_mem hp with rfl | hp
    · exact ⟨hy, hn⟩
    · have := hF.sv h p hp; exact ⟨this.1, Nat.le_trans this.2 hN⟩) fun v _ h => h
theorem Fr.svMore (hF : Fr w0 w L D S) {s : SL} {N N' : Nat} (h : dpSv s N ∈ D) (hN : N ≤ N') : Fr w0 w L (dpSv s N' :: D) S :=
  hF.add _ (fun p hp => by have := hF.sv h p hp; exact ⟨this.1, Nat.le_trans this.2 hN⟩) fun v _ h => h
theorem sv_at {H : Array Obj} {s : SL} {N : Nat} (h : ∀ p ∈ s, LI H (ival p.2) p.2 ∧ p.2.m.n ≤ N) (j : Int) : GI H ((lkp s j).getD iv0) ∧ ((lkp s j).getD iv0).m.n ≤ N := by
  cases hq : lkp s j with
  | none => exact ⟨iv0_gi _, Nat.zero_le _⟩
  | some y => have := h _ (lkp_mem hq); exact ⟨this.1.g, this.2⟩
theorem ev_mlookJ (hF : Fr w0 w L D S) {x i : Operand} {ty k e : TypeId} [hT : UMap P ty k e] [hK : UKey P k Int intk] {sz b1 b : Nat} [hS : USize P e (.agg #[.bool false, .slice none 0 0]) sz b1] {l : SL} {y : Int} (hx : Go.Eng.look σ x = some (.map (some b))) (hi : Go.Eng.look σ i = some (intk y)) (hm : dpMp intk ivA b l ∈ D) :
    Ev P σ w.heap ⟨do_, .lookup ty x i false, t, pos, af, gd⟩ (ivA ((lkp l y).getD iv0)) := by
  have := ev_mlook (do_ := do_) (t := t) (pos := pos) (af := af) (gd := gd) (ty := ty) (P := P) hF hx hi hm
  rwa [elim_iv] at this
theorem ev_mlookQ (hF : Fr w0 w L D S) {x i : Operand} {ty k e : TypeId} [hT : UMap P ty k e] [hK : UKey P k Int intk] {sz b1 b : Nat} [hS : USize P e (.slice none 0 0) sz b1] {l : List (Int × S3)} {y : Int} {A : Option Addr} {n c : Nat} (hx : Go.Eng.look σ x = some (.map (some b))) (hi : Go.Eng.look σ i = some (intk y)) (hm : dpMp intk slc3 b l ∈ D) (h : (lkp l y).elim (Value.slice none 0 0) slc3 = .slice A n c) :
    Ev P σ w.heap ⟨do_, .lookup ty x i false, t, pos, af, gd⟩ (.slice A n c) := by
  have := ev_mlook (do_ := do_) (t := t) (pos := pos) (af := af) (gd := gd) (ty := ty) (P := P) hF hx hi hm
  rwa [h] at this
theorem ev_entryS (hF : Fr w0 w L D S) {p : Int × S3} {r b : Nat} {l done todo : List (Int × S3)} (hm : dpIt intk slc3 r b l (done ++ [p]) todo ∈ D) {x : Operand} (hx : Go.Eng.look σ x = some (.pointer (some ⟨r, 0, none⟩))) : Ev P σ w.heap ⟨do_, .entry x, t, pos, af, gd⟩ (.tuple #[.int .i64 p.1, .slice p.2.1 p.2.2.1 p.2.2.2]) := ev_entry hF hm hx
theorem ev_entryJ (hF : Fr w0 w L D S) {p : Int × IV} {r b : Nat} {l done todo : SL} (hm : dpIt intk ivA r b l (done ++ [p]) todo ∈ D) {x : Operand} (hx : Go.Eng.look σ x = some (.pointer (some ⟨r, 0, none⟩))) : Ev P σ w.heap ⟨do_, .entry x, t, pos, af, gd⟩ (.tuple #[.int .i64 p.1, ivA p.2]) := ev_entry hF hm hx
theorem Fr.it_lt (hF : Fr w0 w L D S) {K V : Type} {f : K → Value} {g : V → Value} {r b : Nat} {l d t : List (K × V)} (h : dpIt f g r b l d t ∈ D) : r < w.heap.size := by
  have := hF.data _ h
  unfold dpIt at this
  obtain ⟨es, c, E, T, _, _, h1, _⟩ := this
  exact (Array.getElem?_eq_some_iff.1 h1).1
theorem Fr.rw_it (hF : Fr w0 w L D S) {R : List RW} (h : dpRW R ∈ D) {K V : Type} {f : K → Value} {g : V → Value} {r b : Nat} {l d t : List (K × V)} (h2 : dpIt f g r b l d t ∈ D) : ¬ (dpRW R).fp r := fun ⟨r', hr', hk⟩ => by
  have := hF.data _ h2
  unfold dpIt at this
  obtain ⟨es, c, E, T, _, _, hm, _⟩ := this
  have hs := hF.rw h r' hr'
  obtain ⟨hn, o, e⟩ := hk
  have hl := hs.len
  have hp := hs.pos
  rcases hs.mem with h | ⟨b', o', e', _, hc⟩
  · omega
  · rw [e] at e'
    cases e'
    have hw := hs.wid r'.2.2[0] (List.getElem_mem (by omega))
    have := hc 0 r'.2.2[0] (List.getElem?_eq_getElem (by omega)) 0 (plc r'.2.2[0])[0] (List.getElem?_eq_getElem (by omega))
    unfold hcell at this
    rw [hm] at this
    cases this
/-- the rows of a grid join the facts -/
theorem Fr.addBy (hF : Fr w0 w L D S) {mb : Nat} {R : List RW} {ls : GL} (h : Fr w w' [] [dpMp intk slc3 mb (rowsM R), dpRW R, dpGv ls]) (hm : w.heap.size ≤ mb) (hf : ∀ r ∈ R, ∀ k, fpA r.2.1.1 r.2.1.2.1 k → w.heap.size ≤ k) : Fr w0 w' L (dpMp intk slc3 mb (rowsM R) :: dpRW R :: dpGv ls :: D) S := by
  have hE := h.ext
  have h1 := Fr.addGv (hF.exts hE) (Fr.gv h (l := ls) (by repeat (first | exact memH | apply memT)))
  have h2 : Fr w0 w' L (dpRW R :: dpGv ls :: D) S := h1.add _ (h.rw (by repeat (first | exact memH | apply memT))) fun v hv ⟨r, hr, hk⟩ => by
    have := (hF.vars v hv).2.lt
    have := hf r hr _ hk
    omega
  refine h2.add _ (by unfold dpMp; exact h.mp (by repeat (first | exact memH | apply memT))) fun v hv hk => ?_
  unfold dpMp at hk
  have := (hF.vars v hv).2.lt
  have hk2 : v.b = mb := hk
  omega
end
attribute [irreducible] dpSv

/-- the inner step of a product -/
theorem mul_step {gl gl2 ls2 : GL} {s : SL} {a b : Nat} {p q : (Int × Int) × IV} {y : IV} (hq : gl2[b]? = some q) (h : ∀ j, sz s j = rs (gl.take a) ls2 j + ival p.2 * cs (gl2.take b) j) (hy : ival y = ival p.2 * ival q.2 + sz s q.1.2) :
    ∀ j, sz (ups s q.1.2 y) j = rs (gl.take a) ls2 j + ival p.2 * cs (gl2.take (b + 1)) j := fun j => by
  rw [sz_ups, take_snoc hq, cs_snoc, Int.mul_add]
  by_cases hj : q.1.2 = j
  · subst hj; rw [if_pos rfl, if_pos rfl, hy, h]; omega
  · rw [if_neg hj, if_neg hj, h]; omega
theorem mul_row {gl ls2 : GL} {s : SL} {a : Nat} {p : (Int × Int) × IV} {X : Int → Int} (hp : gl[a]? = some p) (h : ∀ j, sz s j = rs (gl.take a) ls2 j + ival p.2 * X j) (hX : ∀ j, X j = zv ls2 (p.1.2, j)) : ∀ j, sz s j = rs (gl.take (a + 1)) ls2 j := fun j => by
  rw [h, hX, take_snoc hp, rs_snoc]
theorem sz_snoc {s : SL} {p : Int × IV} (h : p.1 ∉ s.map (·.1)) (j : Int) : sz (s ++ [p]) j = if p.1 = j then ival p.2 else sz s j := by
  have := ups_new h p.2
  unfold sz
  rw [← this, lkp_ups]
  by_cases hk : p.1 = j <;> simp [hk]
theorem sz_perm {s s' : SL} (hn : (s.map (·.1)).Nodup) (h : s.Perm s') (j : Int) : sz s j = sz s' j := by unfold sz; rw [lkp_perm hn h]
theorem mul_fin {gl ls1 ls2 lo lo4 : GL} {s d4 : SL} {i X Y : Int} (hsn : (s.map (·.1)).Nodup) (hp : s.Perm d4) (hs : ∀ j, sz s j = rs gl ls2 j) (hgi : gl = inRow i ls1) (h : zv lo4 (X, Y) = if X = i then sz d4 Y else zv lo (X, Y)) : zv lo4 (X, Y) = if X = i then mulZ ls1 ls2 (X, Y) else zv lo (X, Y) := by
  rw [h]
  by_cases hx : X = i
  · rw [if_pos hx, if_pos hx, ← sz_perm hsn hp, hs, mulZ_rs, hx, hgi]
  · rw [if_neg hx, if_neg hx]
theorem perm_new {K V : Type} {l done todo : List (K × V)} {p : K × V} (hn : (l.map (·.1)).Nodup) (hp : l.Perm (done ++ [p] ++ todo)) : p.1 ∉ done.map (·.1) := by
  have h1 : ((done ++ [p] ++ todo).map (·.1)).Nodup := ((hp.map _).nodup_iff).1 hn
  rw [List.map_append, List.map_append] at h1
  exact fun hm => (List.nodup_append.1 (List.nodup_append.1 h1).1).2.2 _ hm p.1 (by simp) rfl
end Go.Eng
namespace Go.Proofs.Ytlpheckjogphmaa
open Go Go.Eng Go.Proofs Go.NatM Go.RowKit
set_option maxHeartbeats 16000000 in
theorem gmul_ok (w : World) (g m g2 m2 r n c : Nat) (l l2 : GL) (hG : Gr w.heap g m r n l) (hG2 : Gr w.heap g2 m2 n c l2) (hl : l.length ≤ 4096) (hl2 : l2.length ≤ 4096) :
    Cl Try.prog 22 #[.pointer (some ⟨g, 0, none⟩), .pointer (some ⟨g2, 0, none⟩)] w
      (fun e w' => RetGZ w r c (mulZ l l2) e w' ∨ (Refw (mulZ l l2) ∧ RetLg w 5 e w')) := by
  have hn : (l.map (·.1)).Nodup := by obtain ⟨es, k, _, h⟩ := hG.mp; exact h.keys
  have hn2 : (l2.map (·.1)).Nodup := by obtain ⟨es, k, _, h⟩ := hG2.mp; exact h.keys
  have hF := Fr.mt (Fr.mt (Fr.refS w fun _ => False) (dpGr g m r n l) (by unfold dpGr; exact hG)) (dpGr g2 m2 n c l2) (by unfold dpGr; exact hG2)
  clear hG hG2
  refine enter Try.func22 rfl rfl rfl ?_
  repeat' (first | (refine TL.isOp ?_; first | (refine TL.isG ?_; first | refine TL.grun rfl rfl rfl ?_ | refine TL.gskip rfl rfl rfl rfl ?_ | refine TL.gskipU rfl rfl rfl ?_) | (refine TL.isCall ?_; refine TL.call rfl rfl ?_; first | (refine (blank_ok _ r c).mono ?_; rintro _ wy ⟨go, mo, rfl, hE, hgo, hmo, hGo⟩; have hz0 := hF.exs.size; replace hF := Fr.newParts hF hE hgo hmo hGo; replace hgo := Nat.le_trans hz0 hgo; replace hmo := Nat.le_trans hz0 hmo; have hgom := hGo.ne; clear hE hGo hz0; refine Back.mk ?_) | (refine (gbyrow_ok _ g2 m2 n c l2 (hF.grOf (g := g2) (l := l2) (by repeat (first | exact memH | apply memT))) (by omega)).mono ?_; rintro _ wy ⟨mr, R2, ls2, rfl, hmr, hFb, hg2, hk2, hnd2, hlen2, hzk2, hfr2⟩; have hmo_mr := Nat.ne_of_lt (Nat.lt_of_lt_of_le (hF.mp_lt (m := mo) (l := ([] : GL)) (by repeat (first | exact memH | apply memT))) hmr); have hz0 := hF.exs.size; replace hF := hF.addBy hFb hmr hfr2; replace hmr := Nat.le_trans hz0 hmr; clear hFb hz0 hfr2; refine Back.mk ?_) | (refine (gbyrow_ok _ g m r n l (hF.grOf (g := g) (l := l) (by repeat (first | exact memH | apply memT))) (by omega)).mono ?_; rintro _ wy ⟨ml, R1, ls1, rfl, hml, hFb, hg1, hk1, hnd1, hlen1, hzk1, hfr1⟩; have hmo_ml := Nat.ne_of_lt (Nat.lt_of_lt_of_le (hF.mp_lt (m := mo) (l := ([] : GL)) (by repeat (first | exact memH | apply memT))) hml); have hmr_ml := Nat.ne_of_lt (Nat.lt_of_lt_of_le (hF.mp_lt (m := mr) (l := rowsM R2) (by repeat (first | exact memH | apply memT))) hml); have hz0 := hF.exs.size; replace hF := hF.addBy hFb hml hfr1; replace hml := Nat.le_trans hz0 hml; clear hFb hz0 hfr1; refine Back.mk ?_)) | (refine TL.isBin ?_; refine TL.cmpG rfl rfl rfl rfl (fun hc => ?_) (fun hc => ?_) <;> (try (first | (exfalso; omega) | exact absurd rfl hc))) | (apply TL.ev; (case hd => rfl); (case h => (first | exact ev_simple rfl | (apply Ev.isBin; first | exact ev_arN rfl rfl rfl (by omega) | exact ev_arI rfl rfl rfl (by omega) | exact ev_eqlB (r := true) rfl rfl rfl | exact ev_eqlB (r := false) rfl rfl rfl | exact ev_neqB (r := true) rfl rfl rfl | exact ev_neqB (r := false) rfl rfl rfl | exact ev_eqlP rfl rfl rfl) | (apply Ev.isLoad; first | exact ev_loadFr hF rfl (by refine ⟨?_, ?_⟩; (focus (repeat (first | exact InV.head | apply InV.tail))); rfl) | exact ev_loadAFr hF rfl (by refine ⟨?_, ?_⟩; (focus (repeat (first | exact InV.head | apply InV.tail))); rfl) | exact ev_loadV rfl (hF.grOf (g := g) (l := l) (by repeat (first | exact memH | apply memT))).cells rfl | exact ev_loadV rfl (hF.grOf (g := g2) (l := l2) (by repeat (first | exact memH | apply memT))).cells rfl) | exact ev_len rfl | exact ev_fieldAddr rfl | exact ev_field rfl rfl | exact ev_fieldA rfl rfl | exact ev_buildX rfl rfl | exact ev_makeFunc rfl | exact ev_nilCheck rfl | exact ev_neg rfl (by omega) | exact ev_cap rfl))) | (refine TL.storeAFr hF rfl rfl rfl rfl (by refine ⟨?_, ?_⟩; (focus (repeat (first | apply SetV.head | apply SetV.tail))); rfl) rfl ?_; clear hF; intro ws hF) | (refine TL.storeFr hF rfl rfl rfl rfl (by refine ⟨?_, ?_⟩; (focus (repeat (first | apply SetV.head | apply SetV.tail))); rfl) rfl ?_; clear hF; intro ws hF) | (refine TL.rangeFr (f := intk) (g := slc3) (l := rowsM R1) hF rfl (by repeat (first | exact memH | apply memT)) rfl ?_; have hr := hF.exs.size; clear hF; intro wr rr er hF; replace hr := Nat.le_trans hr (Nat.le_of_eq er.symm); clear er) | (refine TL.boxAFr hF rfl rfl ?_; clear hF; intro wb bb hF) | (refine TL.boxFr hF rfl rfl ?_; clear hF; intro wb bb hF) | (refine TL.allocFr hF rfl rfl ?_; clear hF; intro wa ba hF)) | (refine TF.is ?_; first | refine TF.nil ?_ | refine TF.e rfl ?_ | refine TF.alt ?_ ?_ | (refine TF.pick rfl ?_; first | (refine TFo.cmpG rfl rfl rfl rfl (fun hc => ?_) (fun hc => ?_) <;> (try (first | (exfalso; omega) | exact absurd rfl hc))) | (refine TFo.cmpGg rfl rfl rfl rfl rfl rfl rfl (fun hc => ?_) (fun hc => ?_) <;> (try (first | (exfalso; omega) | exact absurd rfl hc))) | (apply TFo.ev; (case hd => rfl); (case h => (intro wh hF; first | exact ev_simple rfl | (apply Ev.isBin; first | exact ev_arN rfl rfl rfl (by omega) | exact ev_arI rfl rfl rfl (by omega) | exact ev_eqlB (r := true) rfl rfl rfl | exact ev_eqlB (r := false) rfl rfl rfl | exact ev_neqB (r := true) rfl rfl rfl | exact ev_neqB (r := false) rfl rfl rfl | exact ev_eqlP rfl rfl rfl) | (apply Ev.isLoad; first | exact ev_loadFr hF rfl (by refine ⟨?_, ?_⟩; (focus (repeat (first | exact InV.head | apply InV.tail))); rfl) | exact ev_loadAFr hF rfl (by refine ⟨?_, ?_⟩; (focus (repeat (first | exact InV.head | apply InV.tail))); rfl) | exact ev_loadV rfl (hF.grOf (g := g) (l := l) (by repeat (first | exact memH | apply memT))).cells rfl | exact ev_loadV rfl (hF.grOf (g := g2) (l := l2) (by repeat (first | exact memH | apply memT))).cells rfl) | exact ev_len rfl | exact ev_fieldAddr rfl | exact ev_field rfl rfl | exact ev_fieldA rfl rfl | exact ev_buildX rfl rfl | exact ev_makeFunc rfl | exact ev_nilCheck rfl | exact ev_neg rfl (by omega) | exact ev_cap rfl))) | (apply TFo.evg rfl rfl rfl; (case hd => rfl); (case h => (intro wh hF; first | exact ev_simple rfl | (apply Ev.isBin; first | exact ev_arN rfl rfl rfl (by omega) | exact ev_arI rfl rfl rfl (by omega) | exact ev_eqlB (r := true) rfl rfl rfl | exact ev_eqlB (r := false) rfl rfl rfl | exact ev_neqB (r := true) rfl rfl rfl | exact ev_neqB (r := false) rfl rfl rfl | exact ev_eqlP rfl rfl rfl) | (apply Ev.isLoad; first | exact ev_loadFr hF rfl (by refine ⟨?_, ?_⟩; (focus (repeat (first | exact InV.head | apply InV.tail))); rfl) | exact ev_loadAFr hF rfl (by refine ⟨?_, ?_⟩; (focus (repeat (first | exact InV.head | apply InV.tail))); rfl) | exact ev_loadV rfl (hF.grOf (g := g) (l := l) (by repeat (first | exact memH | apply memT))).cells rfl | exact ev_loadV rfl (hF.grOf (g := g2) (l := l2) (by repeat (first | exact memH | apply memT))).cells rfl) | exact ev_len rfl | exact ev_fieldAddr rfl | exact ev_field rfl rfl | exact ev_fieldA rfl rfl | exact ev_buildX rfl rfl | exact ev_makeFunc rfl | exact ev_nilCheck rfl | exact ev_neg rfl (by omega) | exact ev_cap rfl))) | refine TFo.skip rfl rfl rfl rfl ?_ | refine TFo.skipU rfl rfl rfl ?_)) | (refine T.is ?_; first | refine T.seq ?_ | refine T.region ?_ | refine T.block ?_ | refine T.cond_t rfl ?_ | refine T.cond_f rfl ?_ | refine T.exit ?_ | refine T.ret ?_ | refine T.skip ?_ | (refine T.regionFr hF 5 13 (.s 0 (.s 1 (.s 2 (.s 3 (.s 4 (.s 5 (.s 6 (.s 7 (.s 9 (.e 8 (.e 10 (.s 11 (.s 12 .nil))))))))))))) mixed (by kernel_rfl) ?_; clear hF; intro wr hF) | (refine T.regionFr hF 16 12 (.s 0 (.s 1 (.s 2 (.s 3 (.s 4 (.s 5 (.s 6 (.s 7 (.s 8 (.s 9 (.e 10 (.e 11 (.e 12 .nil))))))))))))) mixed (by kernel_rfl) ?_; clear hF; intro wr hF) | refine T.regionQ mixed (by kernel_rfl) ?_) | (refine G.is ?_; first | refine G.next ?_ | refine G.blockN ?_ | refine G.blockE ?_ | refine G.blockE' rfl ?_ | refine G.blockR ?_ | refine G.thenE ?_ | refine G.thenR ?_ | refine G.only ?_ | refine G.treeEnd rfl ?_ | refine G.tree rfl (by first | exact hF | exact hF.weak (List.sublist_append_right _ _) (by repeat (first | exact allR | apply allT)) | exact hF.weak (by repeat (first | exact List.Sublist.refl _ | apply List.Sublist.cons)) (by repeat (first | exact allR | apply allT)) | exact hF.weak (by repeat (first | exact List.Sublist.refl _ | apply List.Sublist.cons)) (by repeat (first | exact allN | refine allH (by repeat (first | exact memH | apply memT)) ?_))) ?_) | refine TL.nil ?_ | (refine TL.nilFr hF ?_; clear hF; intro wq hF))
  have hR1 : (R1.map (·.1)).Nodup := by
    obtain ⟨es, x, _, hq⟩ := hF.mp (show dpMp intk slc3 ml (rowsM R1) ∈ _ from (by repeat (first | exact memH | apply memT)))
    rw [← rowsM_keys]; exact hq.keys
  have hR2 : (R2.map (·.1)).Nodup := by
    obtain ⟨es, x, _, hq⟩ := hF.mp (show dpMp intk slc3 mr (rowsM R2) ∈ _ from (by repeat (first | exact memH | apply memT)))
    rw [← rowsM_keys]; exact hq.keys
  have hmo_rr := hF.it_mp (m := mo) (l2 := ([] : GL)) (by repeat (first | exact memH | apply memT)) (by repeat (first | exact memH | apply memT))
  have hmr_rr := hF.it_mp (m := mr) (l2 := rowsM R2) (by repeat (first | exact memH | apply memT)) (by repeat (first | exact memH | apply memT))
  have hml_rr := hF.it_mp (m := ml) (l2 := rowsM R1) (by repeat (first | exact memH | apply memT)) (by repeat (first | exact memH | apply memT))
  have hZ := mulZ_congr hn hnd1 hzk1 hzk2
  refine T.loop (α := List (Int × S3) × List (Int × S3) × GL) (fun x => [(6, .pointer (some ⟨go, 0, none⟩)), (7, .map (some mr)), (47, .pointer (some ⟨rr, 0, none⟩))])
    (fun x w' => (rowsM R1).Perm (x.1 ++ x.2.1) ∧ (NZ x.2.2 ∧ (∀ X Y, zv x.2.2 (X, Y) = if X ∈ x.1.map (·.1) then mulZ ls1 ls2 (X, Y) else 0) ∧ x.2.2.length ≤ 4096) ∧ Fr w w' [] [dpIt intk slc3 rr ml (rowsM R1) x.1 x.2.1, dpMp spot ivA mo x.2.2, dpCb go 96 (grc r c mo), dpGv x.2.2, dpMp intk slc3 mr (rowsM R2), dpRW R2, dpGv ls2, dpMp intk slc3 ml (rowsM R1), dpRW R1, dpGv ls1]) (fun x => x.2.1.length) ([], rowsM R1, []) (by repeat (first | exact Sub.nil _ | refine Sub.cons rfl ?_ | refine Sub.cons' rfl (int_congr (by omega)) ?_)) ⟨List.Perm.refl _, ⟨fun p hp => (by cases hp), fun X Y => rfl, Nat.zero_le _⟩, hF.weak (.refl _) (allH (by repeat (first | exact memH | apply memT)) (allH (by repeat (first | exact memH | apply memT)) (allH (by repeat (first | exact memH | apply memT)) (allH (by repeat (first | exact memH | apply memT)) (allH (by repeat (first | exact memH | apply memT)) (allH (by repeat (first | exact memH | apply memT)) (allH (by repeat (first | exact memH | apply memT)) (allH (by repeat (first | exact memH | apply memT)) (allH (by repeat (first | exact memH | apply memT)) (allH (by repeat (first | exact memH | apply memT)) allN))))))))))⟩ ?_
  clear hF
  rintro ⟨done, todo, lo⟩ w1 ⟨hp, ⟨hnz, hzv, hlo⟩, hF⟩
  dsimp only at hp hnz hzv hlo hF ⊢
  repeat' (first | (refine TL.isOp ?_; first | (refine TL.isG ?_; first | refine TL.grun rfl rfl rfl ?_ | refine TL.gskip rfl rfl rfl rfl ?_ | refine TL.gskipU rfl rfl rfl ?_) | (refine TL.isBin ?_; refine TL.cmpG rfl rfl rfl rfl (fun hc => ?_) (fun hc => ?_) <;> (try (first | (exfalso; omega) | exact absurd rfl hc))) | (apply TL.ev; (case hd => rfl); (case h => (first | exact ev_simple rfl | (apply Ev.isBin; first | exact ev_arN rfl rfl rfl (by omega) | exact ev_arI rfl rfl rfl (by omega) | exact ev_eqlB (r := true) rfl rfl rfl | exact ev_eqlB (r := false) rfl rfl rfl | exact ev_neqB (r := true) rfl rfl rfl | exact ev_neqB (r := false) rfl rfl rfl) | (apply Ev.isLoad; first | exact ev_loadFr hF rfl (by refine ⟨?_, ?_⟩; (focus (repeat (first | exact InV.head | apply InV.tail))); rfl) | exact ev_loadAFr hF rfl (by refine ⟨?_, ?_⟩; (focus (repeat (first | exact InV.head | apply InV.tail))); rfl)) | exact ev_len rfl | exact ev_fieldAddr rfl | exact ev_field rfl rfl | exact ev_fieldA rfl rfl | exact ev_buildX rfl rfl | exact ev_makeFunc rfl | exact ev_nilCheck rfl | exact ev_neg rfl (by omega) | exact ev_cap rfl | exact ev_entryS hF (by repeat (first | exact memH | apply memT)) rfl))) | (refine TL.storeAFr hF rfl rfl rfl rfl (by refine ⟨?_, ?_⟩; (focus (repeat (first | apply SetV.head | apply SetV.tail))); rfl) rfl ?_; clear hF; intro ws hF) | (refine TL.storeFr hF rfl rfl rfl rfl (by refine ⟨?_, ?_⟩; (focus (repeat (first | apply SetV.head | apply SetV.tail))); rfl) rfl ?_; clear hF; intro ws hF) | (refine TL.nextFr hF (.inl hr) (nfC (nf_mp hmo_rr) (nfC (nf_cb (hF.it_cb (show dpIt intk slc3 rr ml (rowsM R1) done todo ∈ _ from (by repeat (first | exact memH | apply memT))) (by repeat (first | exact memH | apply memT)))) (nfC nf_gv (nfC (nf_mp hmr_rr) (nfC (hF.rw_it (by repeat (first | exact memH | apply memT)) (show dpIt intk slc3 rr ml (rowsM R1) done todo ∈ _ from (by repeat (first | exact memH | apply memT)))) (nfC nf_gv (nfC (nf_mp hml_rr) (nfC (hF.rw_it (by repeat (first | exact memH | apply memT)) (show dpIt intk slc3 rr ml (rowsM R1) done todo ∈ _ from (by repeat (first | exact memH | apply memT)))) (nfC nf_gv nfN))))))))) rfl rfl (fun h0 wn hFn => ?_) (fun p todo' wn ht hFn => ?_) <;> clear hF <;> have hF := hFn <;> clear hFn) | (refine TL.makeMpFr intk ivA hF (d := 53) rfl ?_; have hms_s := hF.exs.size; have hmo_ms := hF.mp_lt (m := mo) (l := lo) (by repeat (first | exact memH | apply memT)); have hmr_ms := hF.mp_lt (m := mr) (l := rowsM R2) (by repeat (first | exact memH | apply memT)); have hml_ms := hF.mp_lt (m := ml) (l := rowsM R1) (by repeat (first | exact memH | apply memT)); have hrr_ms := hF.it_lt (show dpIt intk slc3 rr ml (rowsM R1) (done ++ [p]) todo' ∈ _ from (by repeat (first | exact memH | apply memT))); clear hF; intro w53 ms em hF; rw [← em] at hmo_ms hmr_ms hml_ms hrr_ms; replace hms_s := Nat.le_trans hms_s (Nat.le_of_eq em.symm); clear em) | (refine TL.boxAFr hF rfl rfl ?_; clear hF; intro wb bb hF) | (refine TL.boxFr hF rfl rfl ?_; clear hF; intro wb bb hF) | (refine TL.allocFr hF rfl rfl ?_; clear hF; intro wa ba hF)) | (refine T.is ?_; first | refine T.seq ?_ | refine T.region ?_ | refine T.block ?_ | refine T.cond_t rfl ?_ | refine T.cond_f rfl ?_ | refine T.exit ?_ | refine T.ret ?_ | refine T.skip ?_ | refine T.regionQ mixed (by kernel_rfl) ?_) | (refine G.is ?_; first | refine G.next ?_ | refine G.blockN ?_ | refine G.blockE ?_ | refine G.blockE' rfl ?_ | refine G.blockR ?_ | refine G.thenE ?_ | refine G.thenR ?_ | refine G.only ?_) | refine TL.nil ?_ | (refine TL.nilFr hF ?_; clear hF; intro wq hF))
  · subst h0
    rw [List.append_nil] at hp
    have hGe := hF.gr (g := go) (m := mo) (r := r) (c := c) (l := lo) (by repeat (first | exact memH | apply memT)) (by repeat (first | exact memH | apply memT)) (by repeat (first | exact memH | apply memT))
    have hzz : ∀ k, zv lo k = mulZ l l2 k := fun ⟨X, Y⟩ => by
      rw [hzv, ← hZ]
      split
      · rfl
      · rename_i hx
        rw [mulZ_rs, ← hg1, inRow_no (fun r hr => (hk1 r hr).2.2) (fun hm => hx ((hp.map _).mem_iff.1 (by rw [rowsM_keys]; exact hm)))]; rfl
    exact G.ret2 rfl rfl rfl (.inl ⟨go, mo, lo, rfl, hF.ext, hgo, hmo, hGe, hnz, hlo, hzz, fun k => by rw [← hzz]; exact gv_small hGe.vals k⟩)
  · obtain ⟨r1, hr1, hrp⟩ := List.mem_map.1 (pm_mem hp ht)
    have hp1 : r1.1 = p.1 := congrArg (·.1) hrp
    have hp2 : r1.2.1 = p.2 := congrArg (·.2) hrp
    obtain ⟨gl, hgl⟩ : ∃ gl, gl = r1.2.2 := ⟨_, rfl⟩
    have hgn : p.2.2.1 = gl.length := by rw [← hp2, hgl]; exact (hk1 r1 hr1).2.1
    have hgi : gl = inRow p.1 ls1 := by rw [hgl, ← hp1, ← hg1, inRow_rows hR1 (fun r hr => (hk1 r hr).2.2) r1 hr1]
    have hgle : gl.length ≤ 4096 := by have := inRow_len p.1 ls1; rw [← hgi] at this; omega
    have hS1 : ∀ {w1 : World} {L : List VB} {D : List DP}, Fr w w1 L D → dpRW R1 ∈ D → Sm 4 plc w1.heap w1.heap.size p.2.1 p.2.2.1 p.2.2.2 gl := fun hF hm => by have := Fr.rw hF hm r1 hr1; rw [hp2, ← hgl] at this; exact this
    have hgv1 : ∀ q ∈ gl, q ∈ ls1 := fun q hq => by rw [hgi] at hq; exact (mem_inRow.1 hq).1
    have hne := hp.trans (ht.append_left done)
    have hpd : p.1 ∉ done.map (·.1) := perm_new (by rw [rowsM_keys]; exact hR1) (step_perm hp ht)
    clear hrp hgl
    refine T.loop (α := Nat × SL) (fun x => [(6, .pointer (some ⟨go, 0, none⟩)), (7, .map (some mr)), (8, .int .i64 p.1), (10, .map (some ms)), (47, .pointer (some ⟨rr, 0, none⟩)), (54, .slice p.2.1 p.2.2.1 p.2.2.2), (55, .int .i64 (p.2.2.1 : Int)), (56, .int .i64 (x.1 : Int))])
      (fun x w' => (x.1 ≤ gl.length ∧ ∀ j, sz x.2 j = rs (gl.take x.1) ls2 j) ∧ Fr w w' [] [dpMp intk ivA ms x.2, dpSv x.2 (32769 + x.1 * 4097), dpIt intk slc3 rr ml (rowsM R1) (done ++ [p]) todo', dpMp spot ivA mo lo, dpCb go 96 (grc r c mo), dpGv lo, dpMp intk slc3 mr (rowsM R2), dpRW R2, dpGv ls2, dpMp intk slc3 ml (rowsM R1), dpRW R1, dpGv ls1]) (fun x => gl.length - x.1) (0, []) (by repeat (first | exact Sub.nil _ | refine Sub.cons rfl ?_ | refine Sub.cons' rfl (int_congr (by omega)) ?_)) ⟨⟨Nat.zero_le _, fun j => rfl⟩, by
        have h0 : Fr w w53 [] (dpSv [] (32769 + 0 * 4097) :: _) _ := hF.add (dpSv [] (32769 + 0 * 4097)) (by unfold dpSv; exact fun q hq => (by cases hq)) fun v hv => (by cases hv)
        exact h0.weak (.refl _) (allH (by repeat (first | exact memH | apply memT)) (allH (by repeat (first | exact memH | apply memT)) (allH (by repeat (first | exact memH | apply memT)) (allH (by repeat (first | exact memH | apply memT)) (allH (by repeat (first | exact memH | apply memT)) (allH (by repeat (first | exact memH | apply memT)) (allH (by repeat (first | exact memH | apply memT)) (allH (by repeat (first | exact memH | apply memT)) (allH (by repeat (first | exact memH | apply memT)) (allH (by repeat (first | exact memH | apply memT)) (allH (by repeat (first | exact memH | apply memT)) (allH (by repeat (first | exact memH | apply memT)) allN))))))))))))⟩ ?_
    clear hF
    rintro ⟨a, s⟩ w2 ⟨⟨ha, hs⟩, hF⟩
    dsimp only at ha hs hF ⊢
    rcases Nat.lt_or_ge a gl.length with han | han
    · have han2 : a < p.2.2.1 := by omega
      obtain ⟨p1, hq1⟩ : ∃ p1, gl[a]? = some p1 := ⟨_, List.getElem?_eq_getElem han⟩
      obtain ⟨hra, hrb, hrc⟩ := rowAt_spec hR2 hk2 p1.1.2
      rw [hg2] at hrc
      generalize hR : Go.Eng.rowAt R2 p1.1.2 = ra at hra hrb hrc
      obtain ⟨rk, ⟨A2, n2, c2⟩, gl2⟩ := ra
      dsimp only at hra hrc
      have hg2le : gl2.length ≤ 4096 := by have := inRow_len p1.1.2 ls2; rw [← hrc] at this; omega
      have hS2 : ∀ {w1 : World} {L : List VB} {D : List DP}, Fr w w1 L D → dpRW R2 ∈ D → Sm 4 plc w1.heap w1.heap.size A2 gl2.length c2 gl2 := fun hF hm => by
        rcases hrb with hrb | hrb
        · have h1 := Fr.rw hF hm _ hrb
          have h2 := (hk2 _ hrb).2.1
          dsimp only at h1 h2
          rw [h2] at h1; exact h1
        · simp only [Prod.mk.injEq] at hrb
          obtain ⟨_, ⟨rfl, rfl, rfl⟩, rfl⟩ := hrb
          exact ⟨rfl, Nat.le_refl _, by decide, fun _ h => (by cases h), .inl rfl⟩
      have hgv2 : ∀ q ∈ gl2, q ∈ ls2 := fun q hq => by rw [hrc] at hq; exact (mem_inRow.1 hq).1
      have hcs : ∀ j, cs gl2 j = zv ls2 (p1.1.2, j) := fun j => by
        have h := cs_zv (k := p1.1.2) (gl := inRow p1.1.2 ls2) (hnd2.sublist (List.filter_sublist.map _)) (fun q hq => (mem_inRow.1 hq).2) j
        rw [hrc, h, zv_inRow]; simp
      repeat' (first | (refine TL.isOp ?_; first | (refine TL.isG ?_; first | refine TL.grun rfl rfl rfl ?_ | refine TL.gskip rfl rfl rfl rfl ?_ | refine TL.gskipU rfl rfl rfl ?_) | (refine TL.isBin ?_; refine TL.cmpG rfl rfl rfl rfl (fun hc => ?_) (fun hc => ?_) <;> (try (first | (exfalso; omega) | exact absurd rfl hc))) | (apply TL.ev; (case hd => rfl); (case h => (first | exact ev_simple rfl | (apply Ev.isBin; first | exact ev_arN rfl rfl rfl (by omega) | exact ev_arI rfl rfl rfl (by omega) | exact ev_eqlB (r := true) rfl rfl rfl | exact ev_eqlB (r := false) rfl rfl rfl | exact ev_neqB (r := true) rfl rfl rfl | exact ev_neqB (r := false) rfl rfl rfl) | (apply Ev.isLoad; first | exact ev_loadFr hF rfl (by refine ⟨?_, ?_⟩; (focus (repeat (first | exact InV.head | apply InV.tail))); rfl) | exact ev_loadAFr hF rfl (by refine ⟨?_, ?_⟩; (focus (repeat (first | exact InV.head | apply InV.tail))); rfl) | exact ev_loadMc [.int .i64 p1.1.1, .int .i64 p1.1.2, .bool p1.2.neg, .slice p1.2.m.A p1.2.m.n p1.2.m.c] rfl (hS1 hF (by repeat (first | exact memH | apply memT))) hq1 rfl) | exact ev_len rfl | exact ev_fieldAddr rfl | exact ev_field rfl rfl | exact ev_fieldA rfl rfl | exact ev_buildX rfl rfl | exact ev_makeFunc rfl | exact ev_nilCheck rfl | exact ev_neg rfl (by omega) | exact ev_cap rfl | exact ev_indexM rfl rfl han2 (hS1 hF (by repeat (first | exact memH | apply memT))).some | exact ev_mlookQ hF (y := p1.1.2) rfl rfl (by repeat (first | exact memH | apply memT)) hra))) | (refine TL.storeAFr hF rfl rfl rfl rfl (by refine ⟨?_, ?_⟩; (focus (repeat (first | apply SetV.head | apply SetV.tail))); rfl) rfl ?_; clear hF; intro ws hF) | (refine TL.storeFr hF rfl rfl rfl rfl (by refine ⟨?_, ?_⟩; (focus (repeat (first | apply SetV.head | apply SetV.tail))); rfl) rfl ?_; clear hF; intro ws hF) | (refine TL.allocFr hF (d := 12) rfl rfl ?_; clear hF; intro w12 b12 hF) | (refine TL.boxAFr hF rfl rfl ?_; clear hF; intro wb bb hF) | (refine TL.boxFr hF rfl rfl ?_; clear hF; intro wb bb hF) | (refine TL.allocFr hF rfl rfl ?_; clear hF; intro wa ba hF)) | (refine T.is ?_; first | refine T.seq ?_ | refine T.region ?_ | refine T.block ?_ | refine T.cond_t rfl ?_ | refine T.cond_f rfl ?_ | refine T.exit ?_ | refine T.ret ?_ | refine T.skip ?_ | refine T.regionQ mixed (by kernel_rfl) ?_) | (refine G.is ?_; first | refine G.next ?_ | refine G.blockN ?_ | refine G.blockE ?_ | refine G.blockE' rfl ?_ | refine G.blockR ?_ | refine G.thenE ?_ | refine G.thenR ?_ | refine G.only ?_) | refine TL.nil ?_ | (refine TL.nilFr hF ?_; clear hF; intro wq hF))
      refine T.loop (α := Nat × SL) (fun x => [(6, .pointer (some ⟨go, 0, none⟩)), (7, .map (some mr)), (8, .int .i64 p.1), (10, .map (some ms)), (12, .pointer (some ⟨b12, 0, none⟩)), (47, .pointer (some ⟨rr, 0, none⟩)), (54, .slice p.2.1 p.2.2.1 p.2.2.2), (55, .int .i64 (p.2.2.1 : Int)), (56, .int .i64 (a : Int)), (63, .slice A2 gl2.length c2), (64, .int .i64 (gl2.length : Int)), (65, .int .i64 (x.1 : Int))])
        (fun x w' => (x.1 ≤ gl2.length ∧ ∀ j, sz x.2 j = rs (gl.take a) ls2 j + ival p1.2 * cs (gl2.take x.1) j) ∧ Fr w w' [⟨b12, 46, [.int .i64 p1.1.1, .int .i64 p1.1.2, .bool p1.2.neg, .slice p1.2.m.A p1.2.m.n p1.2.m.c]⟩] [dpMp intk ivA ms x.2, dpSv x.2 (32769 + a * 4097 + x.1), dpIt intk slc3 rr ml (rowsM R1) (done ++ [p]) todo', dpMp spot ivA mo lo, dpCb go 96 (grc r c mo), dpGv lo, dpMp intk slc3 mr (rowsM R2), dpRW R2, dpGv ls2, dpMp intk slc3 ml (rowsM R1), dpRW R1, dpGv ls1]) (fun x => gl2.length - x.1) (0, s) (by repeat (first | exact Sub.nil _ | refine Sub.cons rfl ?_ | refine Sub.cons' rfl (int_congr (by omega)) ?_)) ⟨⟨Nat.zero_le _, fun j => by rw [hs]; show _ = _ + ival p1.2 * 0; rw [Int.mul_zero, Int.add_zero]⟩, hF⟩ ?_
      clear hF
      clear hs s
      rintro ⟨b, s⟩ w3 ⟨⟨hb, hs⟩, hF⟩
      dsimp only at hb hs hF ⊢
      rcases Nat.lt_or_ge b gl2.length with hbn | hbn
      · obtain ⟨q, hq2⟩ : ∃ q, gl2[b]? = some q := ⟨_, List.getElem?_eq_getElem hbn⟩
        have hqm := hgv2 q (List.mem_of_getElem? hq2)
        have hpm1 := hgv1 p1 (List.mem_of_getElem? hq1)
        repeat' (first | (refine TL.isOp ?_; first | (refine TL.isG ?_; first | refine TL.grun rfl rfl rfl ?_ | refine TL.gskip rfl rfl rfl rfl ?_ | refine TL.gskipU rfl rfl rfl ?_) | (refine TL.isCall ?_; refine TL.call rfl rfl ?_; first | (refine (zmulAdd_ok _ p1.2 q.2 ((lkp s q.1.2).getD iv0) (Fr.gv (l := ls1) hF (by repeat (first | exact memH | apply memT)) p1 hpm1).1.g (Fr.gv (l := ls2) hF (by repeat (first | exact memH | apply memT)) q hqm).1.g (sv_at (hF.sv (s := s) (by repeat (first | exact memH | apply memT))) q.1.2).1 (Nat.le_trans (Fr.gv (l := ls1) hF (by repeat (first | exact memH | apply memT)) p1 hpm1).2 (by decide)) (Nat.le_trans (Fr.gv (l := ls2) hF (by repeat (first | exact memH | apply memT)) q hqm).2 (by decide)) (Nat.le_trans (sv_at (hF.sv (s := s) (by repeat (first | exact memH | apply memT))) q.1.2).2 (by omega))).mono ?_; rintro _ wy ⟨y, rfl, hy, hE, hyn⟩; have hyn2 : y.m.n ≤ 32769 + a * 4097 + (b + 1) := (by have a1 := (Fr.gv (l := ls1) hF (by repeat (first | exact memH | apply memT)) p1 hpm1).2; have a2 := (Fr.gv (l := ls2) hF (by repeat (first | exact memH | apply memT)) q hqm).2; have a3 := (sv_at (hF.sv (s := s) (by repeat (first | exact memH | apply memT))) q.1.2).2; omega); have hyv := hy.val; replace hF := Fr.addLI (hF.exts hE) (hyv.symm ▸ hy); clear hE hy hyn; refine Back.mk ?_)) | (refine TL.isBin ?_; refine TL.cmpG rfl rfl rfl rfl (fun hc => ?_) (fun hc => ?_) <;> (try (first | (exfalso; omega) | exact absurd rfl hc))) | (apply TL.ev; (case hd => rfl); (case h => (first | exact ev_simple rfl | (apply Ev.isBin; first | exact ev_arN rfl rfl rfl (by omega) | exact ev_arI rfl rfl rfl (by omega) | exact ev_eqlB (r := true) rfl rfl rfl | exact ev_eqlB (r := false) rfl rfl rfl | exact ev_neqB (r := true) rfl rfl rfl | exact ev_neqB (r := false) rfl rfl rfl) | (apply Ev.isLoad; first | exact ev_loadFr hF rfl (by refine ⟨?_, ?_⟩; (focus (repeat (first | exact InV.head | apply InV.tail))); rfl) | exact ev_loadAFr hF rfl (by refine ⟨?_, ?_⟩; (focus (repeat (first | exact InV.head | apply InV.tail))); rfl) | exact ev_loadMc [.int .i64 q.1.1, .int .i64 q.1.2, .bool q.2.neg, .slice q.2.m.A q.2.m.n q.2.m.c] rfl (hS2 hF (by repeat (first | exact memH | apply memT))) hq2 rfl) | exact ev_len rfl | exact ev_fieldAddr rfl | exact ev_field rfl rfl | exact ev_fieldA rfl rfl | exact ev_buildX rfl rfl | exact ev_makeFunc rfl | exact ev_nilCheck rfl | exact ev_neg rfl (by omega) | exact ev_cap rfl | exact ev_indexM rfl rfl hbn (hS2 hF (by repeat (first | exact memH | apply memT))).some | exact ev_mlookJ hF (l := s) (y := q.1.2) rfl rfl (by repeat (first | exact memH | apply memT))))) | (refine TL.storeAFr hF rfl rfl rfl rfl (by refine ⟨?_, ?_⟩; (focus (repeat (first | apply SetV.head | apply SetV.tail))); rfl) rfl ?_; clear hF; intro ws hF) | (refine TL.storeFr hF rfl rfl rfl rfl (by refine ⟨?_, ?_⟩; (focus (repeat (first | apply SetV.head | apply SetV.tail))); rfl) rfl ?_; clear hF; intro ws hF) | (refine TL.allocFr hF (d := 14) rfl rfl ?_; clear hF; intro w14 b14 hF) | (refine TL.mupd (Fr.swapD hF) (.inl hms_s) (nfC nf_li (nfC nf_sv (nfC (nf_it (Nat.ne_of_lt hrr_ms) (Nat.ne_of_lt hml_ms)) (nfC (nf_mp (Nat.ne_of_lt hmo_ms)) (nfC (nf_cb (hF.cb_ne (g := go) (m := ms) (l := s) (by repeat (first | exact memH | apply memT)) (by repeat (first | exact memH | apply memT)))) (nfC nf_gv (nfC (nf_mp (Nat.ne_of_lt hmr_ms)) (nfC (hF.rw_mp (by repeat (first | exact memH | apply memT)) (show dpMp intk ivA ms s ∈ _ from (by repeat (first | exact memH | apply memT)))) (nfC nf_gv (nfC (nf_mp (Nat.ne_of_lt hml_ms)) (nfC (hF.rw_mp (by repeat (first | exact memH | apply memT)) (show dpMp intk ivA ms s ∈ _ from (by repeat (first | exact memH | apply memT)))) (nfC nf_gv nfN)))))))))))) (q := q.1.2) (v := y) rfl rfl rfl ?_; clear hF; intro wu hF) | (refine TL.boxAFr hF rfl rfl ?_; clear hF; intro wb bb hF) | (refine TL.boxFr hF rfl rfl ?_; clear hF; intro wb bb hF) | (refine TL.allocFr hF rfl rfl ?_; clear hF; intro wa ba hF)) | (refine TF.is ?_; first | refine TF.nil ?_ | refine TF.e rfl ?_ | refine TF.alt ?_ ?_ | (refine TF.pick rfl ?_; first | (refine TFo.cmpG rfl rfl rfl rfl (fun hc => ?_) (fun hc => ?_) <;> (try (first | (exfalso; omega) | exact absurd rfl hc))) | (refine TFo.cmpGg rfl rfl rfl rfl rfl rfl rfl (fun hc => ?_) (fun hc => ?_) <;> (try (first | (exfalso; omega) | exact absurd rfl hc))) | (apply TFo.ev; (case hd => rfl); (case h => (intro wh hF; first | exact ev_simple rfl | (apply Ev.isBin; first | exact ev_arN rfl rfl rfl (by omega) | exact ev_arI rfl rfl rfl (by omega) | exact ev_eqlB (r := true) rfl rfl rfl | exact ev_eqlB (r := false) rfl rfl rfl | exact ev_neqB (r := true) rfl rfl rfl | exact ev_neqB (r := false) rfl rfl rfl) | (apply Ev.isLoad; first | exact ev_loadFr hF rfl (by refine ⟨?_, ?_⟩; (focus (repeat (first | exact InV.head | apply InV.tail))); rfl) | exact ev_loadAFr hF rfl (by refine ⟨?_, ?_⟩; (focus (repeat (first | exact InV.head | apply InV.tail))); rfl) | exact ev_loadMc [.int .i64 q.1.1, .int .i64 q.1.2, .bool q.2.neg, .slice q.2.m.A q.2.m.n q.2.m.c] rfl (hS2 hF (by repeat (first | exact memH | apply memT))) hq2 rfl) | exact ev_len rfl | exact ev_fieldAddr rfl | exact ev_field rfl rfl | exact ev_fieldA rfl rfl | exact ev_buildX rfl rfl | exact ev_makeFunc rfl | exact ev_nilCheck rfl | exact ev_neg rfl (by omega) | exact ev_cap rfl | exact ev_indexM rfl rfl hbn (hS2 hF (by repeat (first | exact memH | apply memT))).some | exact ev_mlookJ hF (l := s) (y := q.1.2) rfl rfl (by repeat (first | exact memH | apply memT))))) | (apply TFo.evg rfl rfl rfl; (case hd => rfl); (case h => (intro wh hF; first | exact ev_simple rfl | (apply Ev.isBin; first | exact ev_arN rfl rfl rfl (by omega) | exact ev_arI rfl rfl rfl (by omega) | exact ev_eqlB (r := true) rfl rfl rfl | exact ev_eqlB (r := false) rfl rfl rfl | exact ev_neqB (r := true) rfl rfl rfl | exact ev_neqB (r := false) rfl rfl rfl) | (apply Ev.isLoad; first | exact ev_loadFr hF rfl (by refine ⟨?_, ?_⟩; (focus (repeat (first | exact InV.head | apply InV.tail))); rfl) | exact ev_loadAFr hF rfl (by refine ⟨?_, ?_⟩; (focus (repeat (first | exact InV.head | apply InV.tail))); rfl) | exact ev_loadMc [.int .i64 q.1.1, .int .i64 q.1.2, .bool q.2.neg, .slice q.2.m.A q.2.m.n q.2.m.c] rfl (hS2 hF (by repeat (first | exact memH | apply memT))) hq2 rfl) | exact ev_len rfl | exact ev_fieldAddr rfl | exact ev_field rfl rfl | exact ev_fieldA rfl rfl | exact ev_buildX rfl rfl | exact ev_makeFunc rfl | exact ev_nilCheck rfl | exact ev_neg rfl (by omega) | exact ev_cap rfl | exact ev_indexM rfl rfl hbn (hS2 hF (by repeat (first | exact memH | apply memT))).some | exact ev_mlookJ hF (l := s) (y := q.1.2) rfl rfl (by repeat (first | exact memH | apply memT))))) | refine TFo.skip rfl rfl rfl rfl ?_ | refine TFo.skipU rfl rfl rfl ?_)) | (refine T.is ?_; first | refine T.seq ?_ | refine T.region ?_ | refine T.block ?_ | refine T.cond_t rfl ?_ | refine T.cond_f rfl ?_ | refine T.exit ?_ | refine T.ret ?_ | refine T.skip ?_ | (refine T.regionFr hF 5 13 (.s 0 (.s 1 (.s 2 (.s 3 (.s 4 (.s 5 (.s 6 (.s 7 (.s 9 (.e 8 (.e 10 (.s 11 (.s 12 .nil))))))))))))) mixed (by kernel_rfl) ?_; clear hF; intro wr hF) | (refine T.regionFr hF 16 12 (.s 0 (.s 1 (.s 2 (.s 3 (.s 4 (.s 5 (.s 6 (.s 7 (.s 8 (.s 9 (.e 10 (.e 11 (.e 12 .nil))))))))))))) mixed (by kernel_rfl) ?_; clear hF; intro wr hF) | refine T.regionQ mixed (by kernel_rfl) ?_) | (refine G.is ?_; first | refine G.next ?_ | refine G.blockN ?_ | refine G.blockE ?_ | refine G.blockE' rfl ?_ | refine G.blockR ?_ | refine G.thenE ?_ | refine G.thenR ?_ | refine G.only ?_ | refine G.treeEnd rfl ?_ | refine G.tree rfl (by first | exact hF | exact hF.weak (List.sublist_append_right _ _) (by repeat (first | exact allR | apply allT)) | exact hF.weak (by repeat (first | exact List.Sublist.refl _ | apply List.Sublist.cons)) (by repeat (first | exact allR | apply allT)) | exact hF.weak (by repeat (first | exact List.Sublist.refl _ | apply List.Sublist.cons)) (by repeat (first | exact allN | refine allH (by repeat (first | exact memH | apply memT)) ?_))) ?_) | refine TL.nil ?_ | (refine TL.nilFr hF ?_; clear hF; intro wq hF))
        all_goals
          have hF2 := hF.svPut (s := s) (j := q.1.2) (y := y) (by repeat (first | exact memH | apply memT)) (Fr.li hF (x := y) (z := ival y) (by repeat (first | exact memH | apply memT))) hyn2 (by omega)
          exact G.again (b + 1, ups s q.1.2 y) (by repeat (first | exact Sub.nil _ | refine Sub.cons rfl ?_ | refine Sub.cons' rfl (int_congr (by omega)) ?_)) ⟨⟨hbn, mul_step hq2 hs hyv⟩, hF2.weak (.cons _ (.refl _)) (allH (by repeat (first | exact memH | apply memT)) (allH (by repeat (first | exact memH | apply memT)) (allH (by repeat (first | exact memH | apply memT)) (allH (by repeat (first | exact memH | apply memT)) (allH (by repeat (first | exact memH | apply memT)) (allH (by repeat (first | exact memH | apply memT)) (allH (by repeat (first | exact memH | apply memT)) (allH (by repeat (first | exact memH | apply memT)) (allH (by repeat (first | exact memH | apply memT)) (allH (by repeat (first | exact memH | apply memT)) (allH (by repeat (first | exact memH | apply memT)) (allH (by repeat (first | exact memH | apply memT)) allN))))))))))))⟩ (by omega)
      · have hbl : b = gl2.length := Nat.le_antisymm hb hbn
        rw [List.take_of_length_le hbn] at hs
        repeat' (first | (refine TL.isOp ?_; first | (refine TL.isG ?_; first | refine TL.grun rfl rfl rfl ?_ | refine TL.gskip rfl rfl rfl rfl ?_ | refine TL.gskipU rfl rfl rfl ?_) | (refine TL.isBin ?_; refine TL.cmpG rfl rfl rfl rfl (fun hc => ?_) (fun hc => ?_) <;> (try (first | (exfalso; omega) | exact absurd rfl hc))) | (apply TL.ev; (case hd => rfl); (case h => (first | exact ev_simple rfl | (apply Ev.isBin; first | exact ev_arN rfl rfl rfl (by omega) | exact ev_arI rfl rfl rfl (by omega) | exact ev_eqlB (r := true) rfl rfl rfl | exact ev_eqlB (r := false) rfl rfl rfl | exact ev_neqB (r := true) rfl rfl rfl | exact ev_neqB (r := false) rfl rfl rfl) | (apply Ev.isLoad; first | exact ev_loadFr hF rfl (by refine ⟨?_, ?_⟩; (focus (repeat (first | exact InV.head | apply InV.tail))); rfl) | exact ev_loadAFr hF rfl (by refine ⟨?_, ?_⟩; (focus (repeat (first | exact InV.head | apply InV.tail))); rfl)) | exact ev_len rfl | exact ev_fieldAddr rfl | exact ev_field rfl rfl | exact ev_fieldA rfl rfl | exact ev_buildX rfl rfl | exact ev_makeFunc rfl | exact ev_nilCheck rfl | exact ev_neg rfl (by omega) | exact ev_cap rfl))) | (refine TL.storeAFr hF rfl rfl rfl rfl (by refine ⟨?_, ?_⟩; (focus (repeat (first | apply SetV.head | apply SetV.tail))); rfl) rfl ?_; clear hF; intro ws hF) | (refine TL.storeFr hF rfl rfl rfl rfl (by refine ⟨?_, ?_⟩; (focus (repeat (first | apply SetV.head | apply SetV.tail))); rfl) rfl ?_; clear hF; intro ws hF) | (refine TL.boxAFr hF rfl rfl ?_; clear hF; intro wb bb hF) | (refine TL.boxFr hF rfl rfl ?_; clear hF; intro wb bb hF) | (refine TL.allocFr hF rfl rfl ?_; clear hF; intro wa ba hF)) | (refine T.is ?_; first | refine T.seq ?_ | refine T.region ?_ | refine T.block ?_ | refine T.cond_t rfl ?_ | refine T.cond_f rfl ?_ | refine T.exit ?_ | refine T.ret ?_ | refine T.skip ?_ | refine T.regionQ mixed (by kernel_rfl) ?_) | (refine G.is ?_; first | refine G.next ?_ | refine G.blockN ?_ | refine G.blockE ?_ | refine G.blockE' rfl ?_ | refine G.blockR ?_ | refine G.thenE ?_ | refine G.thenR ?_ | refine G.only ?_) | refine TL.nil ?_ | (refine TL.nilFr hF ?_; clear hF; intro wq hF))
        have hF2 := hF.svMore (s := s) (N' := 32769 + (a + 1) * 4097) (by repeat (first | exact memH | apply memT)) (by omega)
        exact G.again (a + 1, s) (by repeat (first | exact Sub.nil _ | refine Sub.cons rfl ?_ | refine Sub.cons' rfl (int_congr (by omega)) ?_)) ⟨⟨han, mul_row hq1 hs hcs⟩, hF2.weak (List.nil_sublist _) (allH (by repeat (first | exact memH | apply memT)) (allH (by repeat (first | exact memH | apply memT)) (allH (by repeat (first | exact memH | apply memT)) (allH (by repeat (first | exact memH | apply memT)) (allH (by repeat (first | exact memH | apply memT)) (allH (by repeat (first | exact memH | apply memT)) (allH (by repeat (first | exact memH | apply memT)) (allH (by repeat (first | exact memH | apply memT)) (allH (by repeat (first | exact memH | apply memT)) (allH (by repeat (first | exact memH | apply memT)) (allH (by repeat (first | exact memH | apply memT)) (allH (by repeat (first | exact memH | apply memT)) allN))))))))))))⟩ (by omega)
    · have hal : a = gl.length := Nat.le_antisymm ha han
      rw [List.take_of_length_le han] at hs
      have hsn : (s.map (·.1)).Nodup := by obtain ⟨es, x, _, hq⟩ := hF.mp (show dpMp intk ivA ms s ∈ _ from (by repeat (first | exact memH | apply memT))); exact hq.keys
      repeat' (first | (refine TL.isOp ?_; first | (refine TL.isG ?_; first | refine TL.grun rfl rfl rfl ?_ | refine TL.gskip rfl rfl rfl rfl ?_ | refine TL.gskipU rfl rfl rfl ?_) | (refine TL.isBin ?_; refine TL.cmpG rfl rfl rfl rfl (fun hc => ?_) (fun hc => ?_) <;> (try (first | (exfalso; omega) | exact absurd rfl hc))) | (apply TL.ev; (case hd => rfl); (case h => (first | exact ev_simple rfl | (apply Ev.isBin; first | exact ev_arN rfl rfl rfl (by omega) | exact ev_arI rfl rfl rfl (by omega) | exact ev_eqlB (r := true) rfl rfl rfl | exact ev_eqlB (r := false) rfl rfl rfl | exact ev_neqB (r := true) rfl rfl rfl | exact ev_neqB (r := false) rfl rfl rfl) | (apply Ev.isLoad; first | exact ev_loadFr hF rfl (by refine ⟨?_, ?_⟩; (focus (repeat (first | exact InV.head | apply InV.tail))); rfl) | exact ev_loadAFr hF rfl (by refine ⟨?_, ?_⟩; (focus (repeat (first | exact InV.head | apply InV.tail))); rfl)) | exact ev_len rfl | exact ev_fieldAddr rfl | exact ev_field rfl rfl | exact ev_fieldA rfl rfl | exact ev_buildX rfl rfl | exact ev_makeFunc rfl | exact ev_nilCheck rfl | exact ev_neg rfl (by omega) | exact ev_cap rfl))) | (refine TL.storeAFr hF rfl rfl rfl rfl (by refine ⟨?_, ?_⟩; (focus (repeat (first | apply SetV.head | apply SetV.tail))); rfl) rfl ?_; clear hF; intro ws hF) | (refine TL.storeFr hF rfl rfl rfl rfl (by refine ⟨?_, ?_⟩; (focus (repeat (first | apply SetV.head | apply SetV.tail))); rfl) rfl ?_; clear hF; intro ws hF) | (refine TL.rangeFr (f := intk) (g := ivA) (l := s) hF rfl (by repeat (first | exact memH | apply memT)) rfl ?_; have hr2 := hF.exs.size; have hmo_r2 := hF.mp_lt (m := mo) (l := lo) (by repeat (first | exact memH | apply memT)); have hmr_r2 := hF.mp_lt (m := mr) (l := rowsM R2) (by repeat (first | exact memH | apply memT)); have hml_r2 := hF.mp_lt (m := ml) (l := rowsM R1) (by repeat (first | exact memH | apply memT)); have hrr_r2 := hF.it_lt (show dpIt intk slc3 rr ml (rowsM R1) (done ++ [p]) todo' ∈ _ from (by repeat (first | exact memH | apply memT))); clear hF; intro w84 r2 er hF; rw [← er] at hmo_r2 hmr_r2 hml_r2 hrr_r2; replace hr2 := Nat.le_trans hr2 (Nat.le_of_eq er.symm); clear er) | (refine TL.boxAFr hF rfl rfl ?_; clear hF; intro wb bb hF) | (refine TL.boxFr hF rfl rfl ?_; clear hF; intro wb bb hF) | (refine TL.allocFr hF rfl rfl ?_; clear hF; intro wa ba hF)) | (refine T.is ?_; first | refine T.seq ?_ | refine T.region ?_ | refine T.block ?_ | refine T.cond_t rfl ?_ | refine T.cond_f rfl ?_ | refine T.exit ?_ | refine T.ret ?_ | refine T.skip ?_ | refine T.regionQ mixed (by kernel_rfl) ?_) | (refine G.is ?_; first | refine G.next ?_ | refine G.blockN ?_ | refine G.blockE ?_ | refine G.blockE' rfl ?_ | refine G.blockR ?_ | refine G.thenE ?_ | refine G.thenR ?_ | refine G.only ?_) | refine TL.nil ?_ | (refine TL.nilFr hF ?_; clear hF; intro wq hF))
      refine T.loop (α := SL × SL × GL) (fun x => [(6, .pointer (some ⟨go, 0, none⟩)), (7, .map (some mr)), (8, .int .i64 p.1), (47, .pointer (some ⟨rr, 0, none⟩)), (84, .pointer (some ⟨r2, 0, none⟩))])
        (fun x w' => s.Perm (x.1 ++ x.2.1) ∧ (NZ x.2.2 ∧ ∀ X Y, zv x.2.2 (X, Y) = if X = p.1 then sz x.1 Y else zv lo (X, Y)) ∧ Fr w w' [] [dpIt intk ivA r2 ms s x.1 x.2.1, dpMp spot ivA mo x.2.2, dpCb go 96 (grc r c mo), dpGv x.2.2, dpIt intk slc3 rr ml (rowsM R1) (done ++ [p]) todo', dpMp intk slc3 mr (rowsM R2), dpRW R2, dpGv ls2, dpMp intk slc3 ml (rowsM R1), dpRW R1, dpGv ls1, dpSv s (32769 + a * 4097)]) (fun x => x.2.1.length) ([], s, lo) (by repeat (first | exact Sub.nil _ | refine Sub.cons rfl ?_ | refine Sub.cons' rfl (int_congr (by omega)) ?_)) ⟨List.Perm.refl _, ⟨hnz, fun X Y => by
          dsimp only
          split
          · rename_i hx
            rw [hzv, if_neg (by rw [hx]; exact hpd)]; rfl
          · rfl⟩, hF.weak (.refl _) (allH (by repeat (first | exact memH | apply memT)) (allH (by repeat (first | exact memH | apply memT)) (allH (by repeat (first | exact memH | apply memT)) (allH (by repeat (first | exact memH | apply memT)) (allH (by repeat (first | exact memH | apply memT)) (allH (by repeat (first | exact memH | apply memT)) (allH (by repeat (first | exact memH | apply memT)) (allH (by repeat (first | exact memH | apply memT)) (allH (by repeat (first | exact memH | apply memT)) (allH (by repeat (first | exact memH | apply memT)) (allH (by repeat (first | exact memH | apply memT)) (allH (by repeat (first | exact memH | apply memT)) allN))))))))))))⟩ ?_
      clear hF
      rintro ⟨d4, t4, lo4⟩ w4 ⟨hp4, ⟨hnz4, hzv4⟩, hF⟩
      dsimp only at hp4 hnz4 hzv4 hF ⊢
      have hno := hF.mp_nodup (m := mo) (l := lo4) (by repeat (first | exact memH | apply memT))
      repeat' (first | (refine TL.isOp ?_; first | (refine TL.isG ?_; first | refine TL.grun rfl rfl rfl ?_ | refine TL.gskip rfl rfl rfl rfl ?_ | refine TL.gskipU rfl rfl rfl ?_) | (refine TL.isCall ?_; refine TL.call rfl rfl ?_; first | (by_cases hbig : bigZ (ival p4.2); refine (long_t _ p4.2 (hF.sv (s := s) (by repeat (first | exact memH | apply memT)) p4 (pm_mem hp4 ht4)).1.g (Nat.le_trans (hF.sv (s := s) (by repeat (first | exact memH | apply memT)) p4 (pm_mem hp4 ht4)).2 (by omega)) hbig).mono ?_; rintro _ wy ⟨rfl, hE⟩; replace hF := hF.exts hE; clear hE; refine Back.mk ?_; rotate_left 1; refine (long_f _ p4.2 (hF.sv (s := s) (by repeat (first | exact memH | apply memT)) p4 (pm_mem hp4 ht4)).1.g (Nat.le_trans (hF.sv (s := s) (by repeat (first | exact memH | apply memT)) p4 (pm_mem hp4 ht4)).2 (by omega)) hbig).mono ?_; rintro _ wy ⟨rfl, hE⟩; replace hF := hF.exts hE; clear hE; refine Back.mk ?_) | (refine (gput_ok _ go mo r c lo4 (p.1, p4.1) p4.2 (ival p4.2) (hF.gr (by repeat (first | exact memH | apply memT)) (by repeat (first | exact memH | apply memT)) (by repeat (first | exact memH | apply memT))) (hF.sv (s := s) (by repeat (first | exact memH | apply memT)) p4 (pm_mem hp4 ht4)).1 (few_of (hF.sv (s := s) (by repeat (first | exact memH | apply memT)) p4 (pm_mem hp4 ht4)).1 hbig)).mono ?_; rintro _ wy ⟨rfl, hE, hGp⟩; replace hF := Fr.addGv (Fr.callMp (Fr.swapD hF) hE (.inl hmo) (nfC (nf_it (Nat.ne_of_gt hmo_r2) (Nat.ne_of_gt hmo_ms)) (nfC (nf_cb hgom) (nfC nf_gv (nfC (nf_it hmo_rr.symm hmo_ml.symm) (nfC (nf_mp hmo_mr.symm) (nfC (hF.rw_mp (by repeat (first | exact memH | apply memT)) (show dpMp spot ivA mo lo4 ∈ _ from (by repeat (first | exact memH | apply memT)))) (nfC nf_gv (nfC (nf_mp hmo_ml.symm) (nfC (hF.rw_mp (by repeat (first | exact memH | apply memT)) (show dpMp spot ivA mo lo4 ∈ _ from (by repeat (first | exact memH | apply memT)))) (nfC nf_gv (nfC nf_sv nfN))))))))))) hGp.mp) hGp.vals; clear hE hGp; refine Back.mk ?_)) | (refine TL.isBin ?_; refine TL.cmpG rfl rfl rfl rfl (fun hc => ?_) (fun hc => ?_) <;> (try (first | (exfalso; omega) | exact absurd rfl hc))) | (apply TL.ev; (case hd => rfl); (case h => (first | exact ev_simple rfl | (apply Ev.isBin; first | exact ev_arN rfl rfl rfl (by omega) | exact ev_arI rfl rfl rfl (by omega) | exact ev_eqlB (r := true) rfl rfl rfl | exact ev_eqlB (r := false) rfl rfl rfl | exact ev_neqB (r := true) rfl rfl rfl | exact ev_neqB (r := false) rfl rfl rfl) | (apply Ev.isLoad; first | exact ev_loadFr hF rfl (by refine ⟨?_, ?_⟩; (focus (repeat (first | exact InV.head | apply InV.tail))); rfl) | exact ev_loadAFr hF rfl (by refine ⟨?_, ?_⟩; (focus (repeat (first | exact InV.head | apply InV.tail))); rfl) | exact ev_loadCb hF rfl (by repeat (first | exact memH | apply memT)) rfl) | exact ev_len rfl | exact ev_fieldAddr rfl | exact ev_field rfl rfl | exact ev_fieldA rfl rfl | exact ev_buildX rfl rfl | exact ev_makeFunc rfl | exact ev_nilCheck rfl | exact ev_neg rfl (by omega) | exact ev_cap rfl | exact ev_entryJ hF (by repeat (first | exact memH | apply memT)) rfl | exact ev_mlen hF (l := lo4) rfl (by repeat (first | exact memH | apply memT))))) | (refine TL.storeAFr hF rfl rfl rfl rfl (by refine ⟨?_, ?_⟩; (focus (repeat (first | apply SetV.head | apply SetV.tail))); rfl) rfl ?_; clear hF; intro ws hF) | (refine TL.storeFr hF rfl rfl rfl rfl (by refine ⟨?_, ?_⟩; (focus (repeat (first | apply SetV.head | apply SetV.tail))); rfl) rfl ?_; clear hF; intro ws hF) | (refine TL.nextFr hF (.inl hr2) (nfC (nf_mp (Nat.ne_of_lt hmo_r2)) (nfC (nf_cb (hF.it_cb (show dpIt intk ivA r2 ms s d4 t4 ∈ _ from (by repeat (first | exact memH | apply memT))) (by repeat (first | exact memH | apply memT)))) (nfC nf_gv (nfC (nf_it (Nat.ne_of_lt hrr_r2) (Nat.ne_of_lt hml_r2)) (nfC (nf_mp (Nat.ne_of_lt hmr_r2)) (nfC (hF.rw_it (by repeat (first | exact memH | apply memT)) (show dpIt intk ivA r2 ms s d4 t4 ∈ _ from (by repeat (first | exact memH | apply memT)))) (nfC nf_gv (nfC (nf_mp (Nat.ne_of_lt hml_r2)) (nfC (hF.rw_it (by repeat (first | exact memH | apply memT)) (show dpIt intk ivA r2 ms s d4 t4 ∈ _ from (by repeat (first | exact memH | apply memT)))) (nfC nf_gv (nfC nf_sv nfN))))))))))) rfl rfl (fun h0 wn hFn => ?_) (fun p4 t4' wn ht4 hFn => ?_) <;> clear hF <;> have hF := hFn <;> clear hFn) | (refine TL.allocFr hF (d := 16) rfl rfl ?_; clear hF; intro w16 b16 hF) | (refine TL.boxAFr hF rfl rfl ?_; clear hF; intro wb bb hF) | (refine TL.boxFr hF rfl rfl ?_; clear hF; intro wb bb hF) | (refine TL.allocFr hF rfl rfl ?_; clear hF; intro wa ba hF)) | (refine T.is ?_; first | refine T.seq ?_ | refine T.region ?_ | refine T.block ?_ | refine T.cond_t rfl ?_ | refine T.cond_f rfl ?_ | refine T.exit ?_ | refine T.ret ?_ | refine T.skip ?_ | refine T.regionQ mixed (by kernel_rfl) ?_) | (refine G.is ?_; first | refine G.next ?_ | refine G.blockN ?_ | refine G.blockE ?_ | refine G.blockE' rfl ?_ | refine G.blockR ?_ | refine G.thenE ?_ | refine G.thenR ?_ | refine G.only ?_) | refine TL.nil ?_ | (refine TL.nilFr hF ?_; clear hF; intro wq hF))
      · subst h0
        rw [List.append_nil] at hp4
        have hfin := fun X Y => mul_fin hsn hp4 hs hgi (hzv4 X Y)
        refine G.ret2 rfl rfl rfl (.inr ⟨.inr ⟨lo4, hnz4, hno, fun pp hpp => ?_, by omega⟩, rfl, hF.ext⟩)
        have e1 : zv lo4 pp.1 = ival pp.2 := zv_some (lkp_of_mem (x := pp.1) (v := pp.2) hno hpp)
        have e2 := hfin pp.1.1 pp.1.2
        rw [show ((pp.1.1, pp.1.2) : Int × Int) = pp.1 from rfl, e1] at e2
        rw [e2, ← hZ]
        split
        · rfl
        · rename_i hx
          rw [if_neg hx] at e2
          have e3 := hzv pp.1.1 pp.1.2
          rw [show ((pp.1.1, pp.1.2) : Int × Int) = pp.1 from rfl] at e3
          rw [e3]
          split
          · rfl
          · rename_i hd
            rw [if_neg hd] at e3
            exact absurd (e2.trans e3) (hnz4 pp hpp)
      · subst h0
        rw [List.append_nil] at hp4
        have hfin := fun X Y => mul_fin hsn hp4 hs hgi (hzv4 X Y)
        exact G.again (done ++ [p], todo', lo4) (by repeat (first | exact Sub.nil _ | refine Sub.cons rfl ?_ | refine Sub.cons' rfl (int_congr (by omega)) ?_)) ⟨step_perm hp ht, ⟨hnz4, fun X Y => by
          dsimp only
          rw [hfin, List.map_append]
          by_cases hx : X = p.1
          · rw [if_pos hx, if_pos (by simp [hx])]
          · rw [if_neg hx, hzv]
            have : X ∈ done.map (·.1) ++ [p].map (·.1) ↔ X ∈ done.map (·.1) := by simp [hx]
            simp only [this], by dsimp only; omega⟩, hF.weak (.refl _) (allH (by repeat (first | exact memH | apply memT)) (allH (by repeat (first | exact memH | apply memT)) (allH (by repeat (first | exact memH | apply memT)) (allH (by repeat (first | exact memH | apply memT)) (allH (by repeat (first | exact memH | apply memT)) (allH (by repeat (first | exact memH | apply memT)) (allH (by repeat (first | exact memH | apply memT)) (allH (by repeat (first | exact memH | apply memT)) (allH (by repeat (first | exact memH | apply memT)) (allH (by repeat (first | exact memH | apply memT)) allN))))))))))⟩ (step_mu ht)
      · have hnew := perm_new hsn (step_perm hp4 ht4)
        exact G.again (d4 ++ [p4], t4', putL lo4 (p.1, p4.1) p4.2) (by repeat (first | exact Sub.nil _ | refine Sub.cons rfl ?_ | refine Sub.cons' rfl (int_congr (by omega)) ?_)) ⟨step_perm hp4 ht4, ⟨hnz4.put _ _, fun X Y => by
          dsimp only
          rw [zv_putL hno, hzv4, sz_snoc hnew]
          by_cases hx : X = p.1
          · subst hx
            by_cases hy : p4.1 = Y
            · subst hy; simp
            · simp [hy]
          · have : ¬ p.1 = X := fun e => hx e.symm
            simp [hx, this]⟩, hF.weak (List.nil_sublist _) (allH (by repeat (first | exact memH | apply memT)) (allH (by repeat (first | exact memH | apply memT)) (allH (by repeat (first | exact memH | apply memT)) (allH (by repeat (first | exact memH | apply memT)) (allH (by repeat (first | exact memH | apply memT)) (allH (by repeat (first | exact memH | apply memT)) (allH (by repeat (first | exact memH | apply memT)) (allH (by repeat (first | exact memH | apply memT)) (allH (by repeat (first | exact memH | apply memT)) (allH (by repeat (first | exact memH | apply memT)) (allH (by repeat (first | exact memH | apply memT)) (allH (by repeat (first | exact memH | apply memT)) allN))))))))))))⟩ (step_mu ht4)
      · refine G.ret2 rfl rfl rfl (.inr ⟨.inl ⟨(p.1, p4.1), ?_⟩, rfl, hF.ext⟩)
        rw [← hZ, mulZ_rs, ← hgi, ← hs, sz_some (lkp_of_mem (x := p4.1) (v := p4.2) hsn (pm_mem hp4 ht4))]
        exact hbig
end Go.Proofs.Ytlpheckjogphmaa

set_option linter.unusedSectionVars false
namespace Go.Eng
open Go Go.Proofs Go.NatM Go.RowKit Go.Proofs.Ytlpheckjogphmaa
theorem nodup_len_le {α : Type} [DecidableEq α] : ∀ {a b : List α}, a.Nodup → (∀ x ∈ a, x ∈ b) → a.length ≤ b.length
  | [], b, _, _ => Nat.zero_le _
  | x :: a, b, hn, h => by
    simp only [List.nodup_cons] at hn
    have hx := h x (List.mem_cons_self ..)
    have ih := nodup_len_le (a := a) (b := b.erase x) hn.2 fun y hy => (List.mem_erase_of_ne (fun e => hn.1 (by rw [← e]; exact hy))).2 (h y (List.mem_cons_of_mem _ hy))
    rw [List.length_erase_of_mem hx] at ih
    have := List.length_pos_of_mem hx
    simp only [List.length_cons]
    omega
theorem NZ.none {l : GL} (h : NZ l) (hn : (l.map (·.1)).Nodup) (e : ∀ k, zv l k = 0) : l = [] := by
  cases l with
  | nil => rfl
  | cons p l => exact absurd (e p.1) ((h.keys p.1).1 (by simp))
/-- places that a list must hold -/
theorem NZ.atLeast {l : GL} (h : NZ l) {ks : List (Int × Int)} (hk : ks.Nodup) (e : ∀ k ∈ ks, zv l k ≠ 0) : ks.length ≤ l.length := by
  have := nodup_len_le hk fun k hm => (h.keys k).2 (e k hm)
  simpa using this
end Go.Eng
namespace Go.Proofs.Ytlpheckjogphmaa
open Go Go.Eng Go.Proofs Go.NatM Go.RowKit
theorem Gr.nodup {H : Array Obj} {g m r c : Nat} {l : GL} (h : Gr H g m r c l) : (l.map (·.1)).Nodup := by obtain ⟨es, k, _, hr⟩ := h.mp; exact hr.keys
/-- Set's answers, by numbers -/
def SetBad (l : GL) (p : Int × Int) (z : Int) : Prop := bigZ z ∨ (zv l p = 0 ∧ z ≠ 0 ∧ 4096 ≤ l.length)
def RetSZ (w : World) (g m r c : Nat) (l : GL) (p : Int × Int) (z : Int) (e : Ending) (w' : World) : Prop := ∃ (er : Int) (l2 : GL), RetW w g m r c l2 (.int .i64 er) e w' ∧ ((er = 5 ∧ l2 = l ∧ SetBad l p z) ∨ (er = 0 ∧ ¬ SetBad l p z ∧ NZ l2 ∧ (∀ k, zv l2 k = if p = k then z else zv l k) ∧ (l2.length : Int) = (l.length : Int) - (if zv l p ≠ 0 then 1 else 0) + (if z ≠ 0 then 1 else 0)))
theorem setBad_iff {l : GL} (hz : NZ l) {p : Int × Int} {x : IV} : GLarge l p x ↔ SetBad l p (ival x) := by
  unfold GLarge SetBad
  rw [big_iff]
  have h := hz.iff p
  cases hq : (lkp l p).isSome with
  | false =>
    rw [hq] at h
    have : zv l p = 0 := Classical.byContradiction fun hn => by have := h.2 hn; cases this
    simp [this]
  | true =>
    rw [hq] at h
    have : zv l p ≠ 0 := h.1 rfl
    simp [this]
theorem gsetZ_ok (w : World) (g m r c : Nat) (l : GL) (p1 p2 : Int) (x : IV) (hG : Gr w.heap g m r c l) (hz : NZ l) (hp : (0 ≤ p1 ∧ p1 < (r : Int)) ∧ (0 ≤ p2 ∧ p2 < (c : Int))) (hx : GI w.heap x) (hxn : x.m.n ≤ 1099511627776) :
    Cl Try.prog 16 #[.pointer (some ⟨g, 0, none⟩), .int .i64 p1, .int .i64 p2, ivA x] w (RetSZ w g m r c l (p1, p2) (ival x)) := by
  by_cases hb : GLarge l (p1, p2) x
  · refine (gset_large w g m r c l p1 p2 x hG hp hx hxn hb).mono ?_
    rintro e w' ⟨rfl, hE⟩
    exact ⟨5, l, ⟨rfl, Exs.of hE, hG.ext hE⟩, .inl ⟨rfl, rfl, (setBad_iff hz).1 hb⟩⟩
  · have hnb := fun h => hb ((setBad_iff hz).2 h)
    have hn := Gr.nodup hG
    have key : ∀ (y : IV), ival y = ival x → NZ (putL l (p1, p2) y) ∧ (∀ k, zv (putL l (p1, p2) y) k = if (p1, p2) = k then ival x else zv l k) ∧ ((putL l (p1, p2) y).length : Int) = (l.length : Int) - (if zv l (p1, p2) ≠ 0 then 1 else 0) + (if ival x ≠ 0 then 1 else 0) := fun y e => by
      refine ⟨hz.put _ _, fun k => by rw [zv_putL hn, e], ?_⟩
      rw [putL_len, e]
      congr 2
      have h := hz.iff (p1, p2)
      by_cases h0 : zv l (p1, p2) = 0
      · have : (lkp l (p1, p2)).isSome = false := by
          cases hq : (lkp l (p1, p2)).isSome with
          | false => rfl
          | true => exact absurd h0 (h.1 hq)
        simp [this, h0]
      · have : (lkp l (p1, p2)).isSome = true := h.2 h0
        simp [this, h0]
    by_cases h0 : ival x = 0
    · refine (gset_zero w g m r c l p1 p2 x hG hp hx hxn h0).mono ?_
      intro e w' h
      have e1 : del l (p1, p2) = putL l (p1, p2) x := by unfold putL; rw [if_pos h0]
      rw [e1] at h
      exact ⟨0, _, h, .inr ⟨rfl, hnb, key x rfl⟩⟩
    · refine (gset_put w g m r c l p1 p2 x hG hp hx hxn hb h0).mono ?_
      rintro e w' ⟨y, hy, h⟩
      have e1 : ups l (p1, p2) y = putL l (p1, p2) y := by unfold putL; rw [if_neg (by rw [hy.val]; exact h0)]
      rw [e1] at h
      exact ⟨0, _, h, .inr ⟨rfl, hnb, key y hy.val⟩⟩
end Go.Proofs.Ytlpheckjogphmaa

set_option linter.unusedSectionVars false
namespace Go.Eng
open Go Go.Proofs Go.NatM Go.RowKit Go.Proofs.Ytlpheckjogphmaa
section
variable {P : Program} {σ : Go.Eng.Store} {H : Array Obj} {d : Option Tmp} {t : TypeId} {pos : String} {af : Array Edge} {gd : Option (Nat × Bool)}
end
end Go.Eng
namespace Go.Proofs.Ytlpheckjogphmaa
open Go Go.Eng Go.Proofs Go.NatM Go.RowKit
end Go.Proofs.Ytlpheckjogphmaa

set_option linter.unusedSectionVars false
namespace Go.Eng
open Go Go.Proofs Go.NatM Go.RowKit Go.Proofs.Ytlpheckjogphmaa
/-- a grid that holds the function Z, N places of it -/
def GZ (H : Array Obj) (g m r c : Nat) (Z : Int × Int → Int) (N : Nat) : Prop := ∃ l : GL, Gr H g m r c l ∧ NZ l ∧ l.length = N ∧ ∀ k, zv l k = Z k
theorem Gr.lts {H : Array Obj} {g m r c : Nat} {l : GL} (h : Gr H g m r c l) : g < H.size ∧ m < H.size := by
  obtain ⟨es, k, hm, _⟩ := h.mp
  exact ⟨h.cells.lt, (Array.getElem?_eq_some_iff.1 hm).1⟩
theorem Gr.de {H H' : Array Obj} {g m r c : Nat} {l : GL} (h : Gr H g m r c l) (hd : DE (fun k => k = g ∨ k = m) H H') : Gr H' g m r c l := by
  have e : (dpGr g m r c l).fp = fun k => k = g ∨ k = m := by unfold dpGr; rfl
  have := (dpGr g m r c l).st H H' (by rw [e]; exact hd) (by unfold dpGr; exact h)
  unfold dpGr at this; exact this
def dpGZ (g m r c : Nat) (Z : Int × Int → Int) (N : Nat) : DP := ⟨fun H => GZ H g m r c Z N, fun k => k = g ∨ k = m, fun H k h e => by
  obtain ⟨l, h, _⟩ := h
  rcases e with rfl | rfl
  · exact h.lts.1
  · exact h.lts.2, fun H H' hd h => by
  obtain ⟨l, h, k⟩ := h
  exact ⟨l, h.de hd, k⟩⟩
section
variable {S : Nat → Prop} {w0 w w' : World} {L : List VB} {D : List DP}
theorem Fr.gz {g m r c N : Nat} {Z : Int × Int → Int} (hF : Fr w0 w L D S) (h : dpGZ g m r c Z N ∈ D) : GZ w.heap g m r c Z N := by
  have := hF.data _ h
  unfold dpGZ at this; exact this
theorem GZ.ext {g m r c N : Nat} {Z : Int × Int → Int} (h : GZ w.heap g m r c Z N) (hE : Ext w w') : GZ w'.heap g m r c Z N := by
  obtain ⟨l, h, k⟩ := h
  exact ⟨l, h.ext hE, k⟩
theorem GZ.lt {H : Array Obj} {g m r c N : Nat} {Z : Int × Int → Int} (h : GZ H g m r c Z N) : g < H.size ∧ m < H.size := by
  obtain ⟨l, h, _⟩ := h
  exact h.lts
theorem Fr.addZ {g m r c N : Nat} {Z : Int × Int → Int} (hF : Fr w0 w L D S) (hE : Ext w w') (hg : w.heap.size ≤ g) (hm : w.heap.size ≤ m) (hG : GZ w'.heap g m r c Z N) : Fr w0 w' L (dpGZ g m r c Z N :: D) S :=
  hF.addNew hE _ (by unfold dpGZ; exact hG) fun k hk => by
    unfold dpGZ at hk
    rcases hk with rfl | rfl
    · exact hg
    · exact hm
theorem Fr.callZ {g m r c N N' : Nat} {Z Z' : Int × Int → Int} (hF : Fr w0 w L (dpGZ g m r c Z N :: D) S) (hE : Exs (fun k => k = m) w w') (hb : w0.heap.size ≤ m ∨ S m) (hfree : ∀ x ∈ D, ¬ x.fp m) (hG : GZ w'.heap g m r c Z' N') : Fr w0 w' L (dpGZ g m r c Z' N' :: D) S := by
  obtain ⟨l, hg, _⟩ := hF.gz (List.mem_cons_self ..)
  obtain ⟨es, k, hm, _⟩ := hg.mp
  refine hF.callX hE hm rfl hb hfree (by unfold dpGZ; exact hG) fun _ h => ?_
  unfold dpGZ at h ⊢; exact h
end
/-- a place of a function, told anew -/
def updZ (Z : Int × Int → Int) (p : Int × Int) (z : Int) (k : Int × Int) : Int := if p = k then z else Z k
/-- a row and kv times another -/
def rowF (Z : Int × Int → Int) (i j kv : Int) (k : Int × Int) : Int := if k.1 = i then Z (i, k.2) + kv * Z (j, k.2) else Z k
end Go.Eng
namespace Go.Proofs.Ytlpheckjogphmaa
open Go Go.Eng Go.Proofs Go.NatM Go.RowKit
theorem newF (w : World) (r c : Nat) (h : r ≤ 1048576 ∧ c ≤ 1048576) : Cl Try.prog 26 #[.int .i64 (r : Int), .int .i64 (c : Int)] w (fun e w' => ∃ g m, e = .returned (.tuple #[.pointer (some ⟨g, 0, none⟩), .int .i64 0]) ∧ Ext w w' ∧ w.heap.size ≤ g ∧ w.heap.size ≤ m ∧ GZ w'.heap g m r c (fun _ => 0) 0) := by
  refine (gnew_ok w r c h).mono ?_
  rintro e w' ⟨_, ⟨g, m, rfl, hE, hg, hm, hG⟩, _, hv, rfl⟩
  cases hv
  exact ⟨g, m, rfl, hE, hg, hm, [], hG, fun _ h => (by cases h), rfl, fun _ => rfl⟩
theorem lenF (w : World) (g m r c N : Nat) (Z : Int × Int → Int) (hG : GZ w.heap g m r c Z N) : Cl Try.prog 15 #[.pointer (some ⟨g, 0, none⟩)] w (fun e w' => e = .returned (.int .i64 (N : Int)) ∧ Ext w w') := by
  obtain ⟨l, hG, hz, rfl, hv⟩ := hG
  exact glen_ok w g m r c l hG
end Go.Proofs.Ytlpheckjogphmaa

set_option linter.unusedSectionVars false
namespace Go.Eng
open Go Go.Proofs Go.NatM Go.RowKit Go.Proofs.Ytlpheckjogphmaa
abbrev ZF := Int × Int → Int
/-- the product of two functions over n columns -/
def prodF (n : Nat) (A B : ZF) (k : Int × Int) : Int := psum (fun y => A (k.1, (y : Int)) * B ((y : Int), k.2)) n
/-- nothing stands outside n rows and columns -/
def InS (n : Nat) (Z : ZF) : Prop := ∀ k, Z k ≠ 0 → (0 ≤ k.1 ∧ k.1 < (n : Int)) ∧ (0 ≤ k.2 ∧ k.2 < (n : Int))
def addF (A B : ZF) (k : Int × Int) : Int := A k + B k
def flipF (A : ZF) (k : Int × Int) : Int := A (flp k)
theorem psum_ne {f : Nat → Int} {n : Nat} (h : psum f n ≠ 0) : ∃ y, y < n ∧ f y ≠ 0 := by
  apply Classical.byContradiction
  intro hn
  apply h
  rw [← psum_zero n]
  exact psum_congr fun q hq => Classical.byContradiction fun h' => hn ⟨q, hq, h'⟩
theorem mulZ_cons (p : (Int × Int) × IV) (l l2 : GL) (k : Int × Int) : mulZ (p :: l) l2 k = (if p.1.1 = k.1 then ival p.2 * zv l2 (p.1.2, k.2) else 0) + mulZ l l2 k := by simp [mulZ]
theorem zv_cons {p : (Int × Int) × IV} {l : GL} (h : p.1 ∉ l.map (·.1)) (k : Int × Int) : zv (p :: l) k = zv l k + (if p.1 = k then ival p.2 else 0) := by
  by_cases hk : p.1 = k
  · subst hk
    rw [if_pos rfl, zv_none (lkp_none.2 h), Int.zero_add]
    exact zv_some (by simp [lkp])
  · rw [if_neg hk, Int.add_zero]
    unfold zv at0
    have : lkp (p :: l) k = lkp l k := by simp [lkp, hk]
    rw [this]
theorem mul_prod {n : Nat} {l2 : GL} (k : Int × Int) : ∀ {l : GL}, (l.map (·.1)).Nodup → (∀ p ∈ l, 0 ≤ p.1.2 ∧ p.1.2 < (n : Int)) → mulZ l l2 k = prodF n (zv l) (zv l2) k
  | [], _, _ => by
    unfold prodF
    have : ∀ q : Nat, q < n → zv ([] : GL) (k.1, (q : Int)) * zv l2 ((q : Int), k.2) = 0 := fun q _ => by rw [show zv ([] : GL) (k.1, (q : Int)) = 0 from rfl, Int.zero_mul]
    rw [psum_congr this, psum_zero]; rfl
  | p :: l, hn, hr => by
    have hn' := (List.nodup_cons.1 hn)
    have ih := mul_prod (l2 := l2) k hn'.2 fun q hq => hr q (List.mem_cons_of_mem _ hq)
    rw [mulZ_cons, ih]
    unfold prodF
    have hp := hr p (List.mem_cons_self ..)
    obtain ⟨⟨a, b⟩, v⟩ := p
    dsimp only at hp hn' ⊢
    obtain ⟨b, rfl⟩ : ∃ q : Nat, b = (q : Int) := ⟨b.toNat, by omega⟩
    have e : ∀ q : Nat, q < n → zv (((a, (b : Int)), v) :: l) (k.1, (q : Int)) * zv l2 ((q : Int), k.2) = zv l (k.1, (q : Int)) * zv l2 ((q : Int), k.2) + (if b = q then 1 else 0) * (if a = k.1 then ival v * zv l2 ((q : Int), k.2) else 0) := fun q _ => by
      rw [zv_cons hn'.1, Int.add_mul]
      congr 1
      by_cases hb : b = q
      · subst hb
        by_cases ha : a = k.1
        · subst ha; simp
        · have : ¬ ((a, (b : Int)) = (k.1, (b : Int))) := fun e => ha (Prod.mk.inj e).1
          simp [ha]
      · have : ¬ ((a, (b : Int)) = (k.1, (q : Int))) := fun e => hb (by have := (Prod.mk.inj e).2; omega)
        rw [if_neg this, if_neg hb, Int.zero_mul, Int.zero_mul]
    rw [psum_congr e, psum_add, psum_unit (fun q => if a = k.1 then ival v * zv l2 ((q : Int), k.2) else 0), if_pos (show b < n by omega), Int.add_comm]
theorem prod_congr {n : Nat} {A A' B B' : ZF} (h : ∀ k, A k = A' k) (h' : ∀ k, B k = B' k) (k : Int × Int) : prodF n A B k = prodF n A' B' k := by
  rw [funext h, funext h']
theorem prod_assoc (n : Nat) (A B C : ZF) (k : Int × Int) : prodF n (prodF n A B) C k = prodF n A (prodF n B C) k := by
  unfold prodF
  dsimp only
  have e1 : ∀ y : Nat, y < n → psum (fun x : Nat => A (k.1, (x : Int)) * B ((x : Int), (y : Int))) n * C ((y : Int), k.2) = psum (fun x : Nat => A (k.1, (x : Int)) * (B ((x : Int), (y : Int)) * C ((y : Int), k.2))) n := fun y _ => by
    rw [← psum_mulR]
    exact psum_congr fun x _ => Int.mul_assoc ..
  rw [psum_congr e1, psum_swap]
  exact psum_congr fun x _ => psum_mul ..
theorem prod_add (n : Nat) (A B C : ZF) (k : Int × Int) : prodF n (addF A B) C k = addF (prodF n A C) (prodF n B C) k := by
  unfold addF prodF
  rw [← psum_add]
  exact psum_congr fun x _ => Int.add_mul ..
theorem prod_flip (n : Nat) (A B : ZF) (k : Int × Int) : flipF (prodF n A B) k = prodF n (flipF B) (flipF A) k := by
  unfold flipF prodF flp
  exact psum_congr fun x _ => Int.mul_comm ..
theorem flp_flp (k : Int × Int) : flp (flp k) = k := rfl
theorem InS.prod {n : Nat} {A B : ZF} (hA : InS n A) (hB : InS n B) : InS n (prodF n A B) := fun k hk => by
  obtain ⟨y, _, h⟩ := psum_ne hk
  have h1 : A (k.1, (y : Int)) ≠ 0 := fun e => h (by rw [e, Int.zero_mul])
  have h2 : B ((y : Int), k.2) ≠ 0 := fun e => h (by rw [e, Int.mul_zero])
  exact ⟨(hA _ h1).1, (hB _ h2).2⟩
theorem InS.add {n : Nat} {A B : ZF} (hA : InS n A) (hB : InS n B) : InS n (addF A B) := fun k hk => by
  by_cases h : A k = 0
  · exact hB k fun e => hk (by unfold addF; rw [h, e]; rfl)
  · exact hA k h
theorem InS.flip {n : Nat} {A : ZF} (hA : InS n A) : InS n (flipF A) := fun k hk => ⟨(hA _ hk).2, (hA _ hk).1⟩
theorem zv_mem {p : (Int × Int) × IV} : ∀ {l : GL}, (l.map (·.1)).Nodup → p ∈ l → zv l p.1 = ival p.2
  | [], _, h => by cases h
  | q :: l, hn, h => by
    have hn' := List.nodup_cons.1 hn
    rw [zv_cons hn'.1]
    rcases List.mem_cons.1 h with rfl | h
    · rw [if_pos rfl, zv_none (lkp_none.2 hn'.1), Int.zero_add]
    · rw [zv_mem hn'.2 h, if_neg fun e => hn'.1 (show q.1 ∈ l.map (·.1) by rw [e]; exact List.mem_map_of_mem h), Int.add_zero]
theorem cross_len {α β γ : Type} (f : α → β → γ) (b : List β) : ∀ a : List α, ((a.map fun p => b.map fun q => f p q).flatten).length = a.length * b.length
  | [] => by simp
  | p :: a => by
    have ih := cross_len f b a
    simp only [List.map_cons, List.flatten_cons, List.length_append, List.length_map, List.length_cons, Nat.add_mul, Nat.one_mul]
    omega
/-- how long a sum of products may be -/
theorem mulZ_abs {l2 : GL} {M : Nat} (k : Int × Int) : ∀ {l : GL}, (∀ p ∈ l, ∀ q, (ival p.2 * zv l2 q).natAbs ≤ M) → (mulZ l l2 k).natAbs ≤ l.length * M
  | [], _ => by simp [mulZ]
  | p :: l, h => by
    rw [mulZ_cons]
    have ih := mulZ_abs k (l := l) fun q hq => h q (List.mem_cons_of_mem _ hq)
    have h1 := h p (List.mem_cons_self ..) (p.1.2, k.2)
    have h2 : (if p.1.1 = k.1 then ival p.2 * zv l2 (p.1.2, k.2) else 0).natAbs ≤ M := by split <;> simp_all
    have := Int.natAbs_add_le (if p.1.1 = k.1 then ival p.2 * zv l2 (p.1.2, k.2) else 0) (mulZ l l2 k)
    rw [List.length_cons, Nat.add_mul]
    omega
/-- no number of a function has more than X binary digits -/
def BlZ (Z : ZF) (X : Nat) : Prop := ∀ k, bl (Z k).natAbs ≤ X
theorem bl_prod {a b : Int} {X Y : Nat} (ha : bl a.natAbs ≤ X) (hb : bl b.natAbs ≤ Y) : (a * b).natAbs ≤ 2 ^ (X + Y) := by
  rw [Int.natAbs_mul, Nat.pow_add]
  exact Nat.mul_le_mul (Nat.le_of_lt (bl_le.1 ha)) (Nat.le_of_lt (bl_le.1 hb))
theorem ref_mul {l l2 : GL} {X Y : Nat} (hz : NZ l) (hz2 : NZ l2) (hn : (l.map (·.1)).Nodup) (hn2 : (l2.map (·.1)).Nodup) (hl : l.length ≤ 4096) (hX : BlZ (zv l) X) (hY : BlZ (zv l2) Y) (h : Refw (mulZ l l2)) : 4096 < l.length * l2.length ∨ 1048576 < X + Y + 13 := by
  rcases h with ⟨k, hk⟩ | ⟨l', hz', hn', hv', hl'⟩
  · right
    have h1 : (mulZ l l2 k).natAbs ≤ l.length * 2 ^ (X + Y) := mulZ_abs k fun p hp q => by
      have e : zv l p.1 = ival p.2 := zv_mem hn hp
      exact bl_prod (by rw [← e]; exact hX _) (hY _)
    have h2 : (mulZ l l2 k).natAbs < 2 ^ (X + Y + 13) := by
      have p3 : (2 : Nat) ^ (X + Y + 13) = 2 ^ (X + Y) * 8192 := Nat.pow_add ..
      have p4 : 0 < (2 : Nat) ^ (X + Y) := Nat.pow_pos (by omega)
      have p5 : l.length * 2 ^ (X + Y) ≤ 4096 * 2 ^ (X + Y) := Nat.mul_le_mul_right _ hl
      omega
    have h3 := bl_le.2 h2
    unfold bigZ at hk
    omega
  · left
    have hk : ∀ x ∈ l'.map (·.1), x ∈ (l.map fun p => l2.map fun q => (p.1.1, q.1.2)).flatten := fun x hx => by
      obtain ⟨p', hp', rfl⟩ := List.mem_map.1 hx
      have h0 : mulZ l l2 p'.1 ≠ 0 := by rw [← hv' _ hp']; exact hz' _ hp'
      have h1 : ∃ p ∈ l, (if p.1.1 = p'.1.1 then ival p.2 * zv l2 (p.1.2, p'.1.2) else 0) ≠ 0 := by
        apply Classical.byContradiction
        intro hno
        apply h0
        have : ∀ (l : GL), (∀ p ∈ l, (if p.1.1 = p'.1.1 then ival p.2 * zv l2 (p.1.2, p'.1.2) else 0) = 0) → mulZ l l2 p'.1 = 0 := by
          intro l
          induction l with
          | nil => intro _; rfl
          | cons p l ih => intro h; rw [mulZ_cons, h p (List.mem_cons_self ..), ih fun q hq => h q (List.mem_cons_of_mem _ hq)]; rfl
        exact this l fun p hp => Classical.byContradiction fun h => hno ⟨p, hp, h⟩
      obtain ⟨p, hp, h2⟩ := h1
      have h3 : p.1.1 = p'.1.1 := Classical.byContradiction fun h => h2 (if_neg h)
      rw [if_pos h3] at h2
      have h4 : zv l2 (p.1.2, p'.1.2) ≠ 0 := fun e => h2 (by rw [e, Int.mul_zero])
      obtain ⟨q, hq, e⟩ := List.mem_map.1 ((hz2.keys _).2 h4)
      refine List.mem_flatten.2 ⟨_, List.mem_map.2 ⟨p, hp, rfl⟩, List.mem_map.2 ⟨q, hq, ?_⟩⟩
      rw [e, h3]
    have h1 := nodup_len_le hn' hk
    have h2 := cross_len (fun (p q : (Int × Int) × IV) => (p.1.1, q.1.2)) l2 l
    rw [h2, List.length_map] at h1
    omega
theorem ref_add {l l2 : GL} {X Y : Nat} (hz : NZ l) (hz2 : NZ l2) (hn : (l.map (·.1)).Nodup) (hn2 : (l2.map (·.1)).Nodup) (hX : BlZ (zv l) X) (hY : BlZ (zv l2) Y) (h : Refu (addF (zv l) (zv l2))) : 4096 < l.length + l2.length ∨ 1048576 < X + Y + 13 := by
  rcases h with ⟨k, hk⟩ | ⟨l', hz', hn', hv', hl'⟩
  · right
    have h1 := bl_le.1 (hX k)
    have h2 := bl_le.1 (hY k)
    have h3 : (addF (zv l) (zv l2) k).natAbs < 2 ^ (X + Y + 13) := by
      have a1 := Int.natAbs_add_le (zv l k) (zv l2 k)
      have p1 : (2 : Nat) ^ X ≤ 2 ^ (X + Y + 12) := Nat.pow_le_pow_right (by omega) (by omega)
      have p2 : (2 : Nat) ^ Y ≤ 2 ^ (X + Y + 12) := Nat.pow_le_pow_right (by omega) (by omega)
      have p3 : (2 : Nat) ^ (X + Y + 13) = 2 ^ (X + Y + 12) * 2 := Nat.pow_succ ..
      unfold addF
      omega
    have h4 := bl_le.2 h3
    unfold bigZ at hk
    omega
  · left
    have := nodup_len_le (b := l.map (·.1) ++ l2.map (·.1)) hn' fun x hx => by
      have h0 := (hz'.keys x).1 hx
      rw [hv'] at h0
      by_cases h : zv l x = 0
      · refine List.mem_append_right _ ((hz2.keys x).2 fun e => h0 (by unfold addF; rw [h, e]; rfl))
      · exact List.mem_append_left _ ((hz.keys x).2 h)
    simp only [List.length_append, List.length_map] at this
    omega
end Go.Eng

set_option linter.unusedSectionVars false
namespace Go.Eng
open Go Go.Proofs Go.NatM Go.RowKit Go.Proofs.Ytlpheckjogphmaa
/-- a function that a grid can hold -/
def FitZ (Z : ZF) : Prop := (∀ k, ¬ bigZ (Z k)) ∧ ∀ ks : List (Int × Int), ks.Nodup → (∀ k ∈ ks, Z k ≠ 0) → ks.length ≤ 4096
theorem FitZ.congr {Z Z' : ZF} (h : FitZ Z) (e : ∀ k, Z' k = Z k) : FitZ Z' := by rw [funext e]; exact h
theorem FitZ.flip {Z : ZF} (h : FitZ Z) : FitZ (flipF Z) := ⟨fun k => h.1 _, fun ks hn hk => by
  have := h.2 (ks.map flp) (List.pairwise_map.2 (hn.imp fun {a b} hne e => hne (flp_inj a b e))) fun k hm => by
    obtain ⟨q, hq, rfl⟩ := List.mem_map.1 hm
    exact hk q hq
  rwa [List.length_map] at this⟩
theorem fit_of {l : GL} {Z : ZF} (hz : NZ l) (hl : l.length ≤ 4096) (hv : ∀ k, zv l k = Z k) (hb : ∀ k, ¬ bigZ (Z k)) : FitZ Z :=
  ⟨hb, fun ks hn hk => Nat.le_trans (hz.atLeast hn fun k hm => by rw [hv]; exact hk k hm) hl⟩
theorem not_fit_w {Z : ZF} (h : Refw Z) : ¬ FitZ Z := by
  rintro ⟨h1, h2⟩
  rcases h with ⟨k, hk⟩ | ⟨l', hz, hn, hv, hl⟩
  · exact h1 k hk
  · have := h2 _ hn fun k hm => by
      obtain ⟨p, hp, rfl⟩ := List.mem_map.1 hm
      rw [← hv p hp]
      exact hz p hp
    rw [List.length_map] at this
    omega
theorem not_fit_u {Z : ZF} (h : Refu Z) : ¬ FitZ Z := by
  rintro ⟨h1, h2⟩
  rcases h with ⟨k, hk⟩ | ⟨l', hz, hn, hv, hl⟩
  · exact h1 k hk
  · have := h2 _ hn fun k hm => by
      rw [← hv k]
      exact (hz.keys k).1 hm
    rw [List.length_map] at this
    omega
/-- two lists in order with the same places -/
theorem sorted_keys : ∀ {a b : List (Int × Int)}, a.Pairwise plt → b.Pairwise plt → (∀ k, k ∈ a ↔ k ∈ b) → a = b
  | [], [], _, _, _ => rfl
  | [], y :: b, _, _, h => absurd ((h y).2 (List.mem_cons_self ..)) (List.not_mem_nil)
  | x :: a, [], _, _, h => absurd ((h x).1 (List.mem_cons_self ..)) (List.not_mem_nil)
  | x :: a, y :: b, ha, hb, h => by
    have ha' := List.pairwise_cons.1 ha
    have hb' := List.pairwise_cons.1 hb
    have asy : ∀ u v : Int × Int, plt u v → plt v u → False := fun u v h1 h2 => by unfold plt at h1 h2; omega
    have irr : ∀ u : Int × Int, ¬ plt u u := fun u h => asy u u h h
    have hxy : x = y := by
      rcases List.mem_cons.1 ((h x).1 (List.mem_cons_self ..)) with e | hx
      · exact e
      · rcases List.mem_cons.1 ((h y).2 (List.mem_cons_self ..)) with e | hy
        · exact e.symm
        · exact (asy x y (ha'.1 y hy) (hb'.1 x hx)).elim
    subst hxy
    rw [sorted_keys ha'.2 hb'.2 fun k => ⟨fun hk => by
      rcases List.mem_cons.1 ((h k).1 (List.mem_cons_of_mem _ hk)) with e | hk'
      · subst e; exact (irr _ (ha'.1 _ hk)).elim
      · exact hk', fun hk => by
      rcases List.mem_cons.1 ((h k).2 (List.mem_cons_of_mem _ hk)) with e | hk'
      · subst e; exact (irr _ (hb'.1 _ hk)).elim
      · exact hk'⟩]
/-- a grid's places in order -/
structure PlF (ls : GL) (Z : ZF) (N : Nat) : Prop where
  so : SortedPl ls
  nd : (ls.map (·.1)).Nodup
  nz : NZ ls
  len : ls.length = N
  val : ∀ k, zv ls k = Z k
theorem PlF.same {a b : GL} {Z : ZF} {N M : Nat} (ha : PlF a Z N) (hb : PlF b Z M) : a.map (·.1) = b.map (·.1) := by
  refine sorted_keys (List.pairwise_map.2 ha.so) (List.pairwise_map.2 hb.so) fun k => ?_
  rw [ha.nz.keys, hb.nz.keys, ha.val, hb.val]
theorem PlF.at_ {a b : GL} {Z : ZF} {N M i : Nat} (ha : PlF a Z N) (hb : PlF b Z M) {p q : (Int × Int) × IV} (hp : a[i]? = some p) (hq : b[i]? = some q) : p.1 = q.1 ∧ ival p.2 = ival q.2 := by
  have e := ha.same hb
  have e1 : (a.map (·.1))[i]? = some p.1 := by rw [List.getElem?_map, hp]; rfl
  have e2 : (b.map (·.1))[i]? = some q.1 := by rw [List.getElem?_map, hq]; rfl
  rw [e, e2] at e1
  have e3 : q.1 = p.1 := Option.some.inj e1
  refine ⟨e3.symm, ?_⟩
  rw [← zv_mem ha.nd (List.mem_of_getElem? hp), ← zv_mem hb.nd (List.mem_of_getElem? hq), ha.val, hb.val, e3]
theorem Fr.addPl {S : Nat → Prop} {w0 w w' : World} {L : List VB} {D : List DP} {b N c : Nat} {ls : GL} (hF : Fr w0 w L D S) (hE : Ext w w') (hb : w.heap.size ≤ b) (hs : Sm 4 plc w'.heap w'.heap.size (some ⟨b, 0, none⟩) N c ls) (hv : ∀ p ∈ ls, LI w'.heap (ival p.2) p.2 ∧ p.2.m.n ≤ 16384) : Fr w0 w' L (dpGv ls :: dpSmG 4 plc (some ⟨b, 0, none⟩) N c ls :: D) S :=
  Fr.addGv (Fr.addSm' hF hE hs fun k hk => by
    obtain ⟨_, o, e⟩ := hk
    cases e
    exact hb) hv
end Go.Eng
namespace Go.Proofs.Ytlpheckjogphmaa
open Go Go.Eng Go.Proofs Go.NatM Go.RowKit
/-- a grid made anew, or none -/
def RetQ (w : World) (n : Nat) (Z : ZF) (O : Prop) (e : Ending) (w' : World) : Prop :=
  (∃ g m N, e = .returned (.tuple #[.pointer (some ⟨g, 0, none⟩), .int .i64 0]) ∧ Ext w w' ∧ w.heap.size ≤ g ∧ w.heap.size ≤ m ∧ GZ w'.heap g m n n Z N ∧ N ≤ 4096 ∧ FitZ Z) ∨ (¬ FitZ Z ∧ O ∧ RetLg w 5 e w')
theorem GZ.inr {H : Array Obj} {g m r c N n : Nat} {Z : ZF} {l : GL} (hz : NZ l) (hv : ∀ k, zv l k = Z k) (hi : InS n Z) : ∀ p ∈ l, 0 ≤ p.1.2 ∧ p.1.2 < (n : Int) := fun p hp => (hi p.1 (by rw [← hv]; exact (hz.keys _).1 (List.mem_map_of_mem hp))).2
theorem mulS (w : World) (g m g2 m2 n N N2 : Nat) (Z Z2 : ZF) (hG : GZ w.heap g m n n Z N) (hG2 : GZ w.heap g2 m2 n n Z2 N2) (hi : InS n Z) (hl : N ≤ 4096) (hl2 : N2 ≤ 4096) :
    Cl Try.prog 22 #[.pointer (some ⟨g, 0, none⟩), .pointer (some ⟨g2, 0, none⟩)] w (RetQ w n (prodF n Z Z2) (∀ X Y, BlZ Z X → BlZ Z2 Y → 4096 < N * N2 ∨ 1048576 < X + Y + 13)) := by
  obtain ⟨l, hG, hz, rfl, hv⟩ := hG
  obtain ⟨l2, hG2, hz2, rfl, hv2⟩ := hG2
  have hn := (Gr.nodup hG)
  have hn2 := (Gr.nodup hG2)
  have ep : ∀ k, mulZ l l2 k = prodF n Z Z2 k := fun k => by
    rw [mul_prod k hn (GZ.inr (H := w.heap) (g := g) (m := m) (r := n) (c := n) (N := 0) hz hv hi)]
    exact prod_congr hv hv2 k
  refine (gmul_ok w g m g2 m2 n n n l l2 hG hG2 hl hl2).mono ?_
  rintro e w' (⟨g3, m3, l', rfl, hE, hg3, hm3, hG3, hz3, hl3, hv3, hb3⟩ | ⟨hr, h⟩)
  · have hv4 : ∀ k, zv l' k = prodF n Z Z2 k := fun k => (hv3 k).trans (ep k)
    exact .inl ⟨g3, m3, _, rfl, hE, hg3, hm3, ⟨l', hG3, hz3, rfl, hv4⟩, hl3, fit_of hz3 hl3 hv4 fun k => by rw [← ep]; exact hb3 k⟩
  · refine .inr ⟨fun hf => not_fit_w hr (hf.congr ep), fun X Y hX hY => ref_mul hz hz2 hn hn2 hl (fun k => by rw [hv]; exact hX k) (fun k => by rw [hv2]; exact hY k) hr, h⟩
theorem addS (w : World) (g m g2 m2 n N N2 : Nat) (Z Z2 : ZF) (hG : GZ w.heap g m n n Z N) (hG2 : GZ w.heap g2 m2 n n Z2 N2) (hl : N ≤ 4096) (hl2 : N2 ≤ 4096) :
    Cl Try.prog 25 #[.pointer (some ⟨g, 0, none⟩), .pointer (some ⟨g2, 0, none⟩)] w (RetQ w n (addF Z Z2) (∀ X Y, BlZ Z X → BlZ Z2 Y → 4096 < N + N2 ∨ 1048576 < X + Y + 13)) := by
  obtain ⟨l, hG, hz, rfl, hv⟩ := hG
  obtain ⟨l2, hG2, hz2, rfl, hv2⟩ := hG2
  have hn := (Gr.nodup hG)
  have hn2 := (Gr.nodup hG2)
  have ep : ∀ k, zv l k + zv l2 k = addF Z Z2 k := fun k => by rw [hv, hv2]; rfl
  refine (gadd_ok w g m g2 m2 n n l l2 hG hG2 hl hl2 hz).mono ?_
  rintro e w' (⟨g3, m3, l', rfl, hE, hg3, hm3, hG3, hz3, hl3, hv3, hb3⟩ | ⟨hr, h⟩)
  · have hv4 : ∀ k, zv l' k = addF Z Z2 k := fun k => (hv3 k).trans (ep k)
    exact .inl ⟨g3, m3, _, rfl, hE, hg3, hm3, ⟨l', hG3, hz3, rfl, hv4⟩, hl3, fit_of hz3 hl3 hv4 fun k => by rw [← ep]; exact hb3 k⟩
  · refine .inr ⟨fun hf => not_fit_u hr (hf.congr ep), fun X Y hX hY => ref_add hz hz2 hn hn2 (fun k => by rw [hv]; exact hX k) (fun k => by rw [hv2]; exact hY k) hr, h⟩
theorem turnS (w : World) (g m n N : Nat) (Z : ZF) (hG : GZ w.heap g m n n Z N) (hl : N ≤ 4096) :
    Cl Try.prog 20 #[.pointer (some ⟨g, 0, none⟩)] w (fun e w' => ∃ g3 m3, e = .returned (.pointer (some ⟨g3, 0, none⟩)) ∧ Ext w w' ∧ w.heap.size ≤ g3 ∧ w.heap.size ≤ m3 ∧ GZ w'.heap g3 m3 n n (flipF Z) N) := by
  obtain ⟨l, hG, hz, rfl, hv⟩ := hG
  refine (gturn_ok w g m n n l hG (by omega)).mono ?_
  rintro e w' ⟨l', ⟨g3, m3, rfl, hE, hg3, hm3, hG3⟩, hlen, hk⟩
  have hk' : ∀ k, zv l' k = flipF Z k := fun k => by
    have := hk (flp k)
    rw [flp_flp] at this
    rw [zv_zk, this, ← zv_zk, hv]; rfl
  refine ⟨g3, m3, rfl, hE, hg3, hm3, l', hG3, fun p hp => ?_, hlen, hk'⟩
  have h1 := hk (flp p.1)
  rw [flp_flp] at h1
  have h2 : zk l' p.1 = some (ival p.2) := by unfold zk; rw [lkp_of_mem (Gr.nodup hG3) (x := p.1) (v := p.2) hp]; rfl
  rw [h2] at h1
  unfold zk at h1
  cases hq : lkp l (flp p.1) with
  | none => rw [hq] at h1; cases h1
  | some y =>
    rw [hq] at h1
    have e1 : ival p.2 = ival y := Option.some.inj h1
    rw [e1]
    exact hz _ (lkp_mem hq)
def RetPq (w : World) (Z : ZF) (N : Nat) (e : Ending) (w' : World) : Prop := ∃ (ls : GL) (b c : Nat), e = .returned (.slice (some ⟨b, 0, none⟩) N c) ∧ Ext w w' ∧ w.heap.size ≤ b ∧ Sm 4 plc w'.heap w'.heap.size (some ⟨b, 0, none⟩) N c ls ∧ (∀ p ∈ ls, LI w'.heap (ival p.2) p.2 ∧ p.2.m.n ≤ 16384) ∧ PlF ls Z N
theorem placesS (w : World) (g m r c N : Nat) (Z : ZF) (hG : GZ w.heap g m r c Z N) (hl : N ≤ 4096) : Cl Try.prog 13 #[.pointer (some ⟨g, 0, none⟩)] w (RetPq w Z N) := by
  obtain ⟨l, hG, hz, rfl, hv⟩ := hG
  refine (gplaces_ok sort_ok w g m r c l hG (by omega)).mono ?_
  rintro e w' ⟨ls, b, c', zs, rfl, ⟨hlc, _, _⟩, hF, hso, hnd, hlen, hk⟩
  have hb := (hF.vars _ (List.mem_cons_self ..)).1.resolve_right id
  have hzv : ∀ k, zv ls k = Z k := fun k => by rw [zv_zk, hk, ← zv_zk, hv]
  rw [hlen] at hlc ⊢
  refine ⟨ls, b, c', rfl, hF.ext, hb, pb_sm hF (by repeat (first | exact InV.head | apply InV.tail)) hlen hlc, Fr.gv (l := ls) hF (by repeat (first | exact memH | apply memT)), hso, hnd, fun p hp => ?_, hlen, hzv⟩
  have h1 := hk p.1
  have h2 : zk ls p.1 = some (ival p.2) := by unfold zk; rw [lkp_of_mem hnd (x := p.1) (v := p.2) hp]; rfl
  rw [h2] at h1
  unfold zk at h1
  cases hq : lkp l p.1 with
  | none => rw [hq] at h1; cases h1
  | some y =>
    rw [hq] at h1
    have e1 : ival p.2 = ival y := Option.some.inj h1
    rw [e1]
    exact hz _ (lkp_mem hq)
end Go.Proofs.Ytlpheckjogphmaa
