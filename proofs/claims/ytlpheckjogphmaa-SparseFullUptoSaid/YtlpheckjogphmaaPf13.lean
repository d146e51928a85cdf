/- Layer 10: the contract of Mul (printed by genmul10.py). Layer 10: contracts over grids as functions. Layer 10: small things for SparseFull: the integer -1, products of one row, doubled numbers. Layer 10: grids as functions from places to numbers, with the number of places; the contracts in these words. -/
import Derived.Test.YtlpheckjogphmaaPf12
set_option linter.unusedVariables false
set_option linter.unusedSimpArgs false
set_option linter.unusedSectionVars false
namespace Go.Eng
open Go Go.Proofs Go.NatM Go.RowKit Go.Proofs.Ytlpheckjogphmaa
/-- sums' integers -/
def dpSv (s : SL) (N : Nat) : DP := ⟨fun H => ∀ p ∈ s, LI H (ival p.2) p.2 ∧ p.2.m.n ≤ N, fun _ => False, fun _ _ _ h => h.elim, fun _ _ hd h p hp => ⟨(h p hp).1.de hd, (h p hp).2⟩⟩
theorem nf_sv {s : SL} {N m : Nat} : ¬ (dpSv s N).fp m := fun h => h
section
variable {P : Program} {σ : Go.Eng.Store} {do_ : Option Tmp} {t : TypeId} {pos : String} {af : Array Edge} {gd : Option (Nat × Bool)} {S : Nat → Prop} {w0 w w' : World} {L : List VB} {D : List DP}
theorem Fr.sv (hF : Fr w0 w L D S) {s : SL} {N : Nat} (h : dpSv s N ∈ D) : ∀ p ∈ s, LI w.heap (ival p.2) p.2 ∧ p.2.m.n ≤ N := hF.data _ h
theorem Fr.svPut (hF : Fr w0 w L D S) {s : SL} {N N' : Nat} (h : dpSv s N ∈ D) {j : Int} {y : IV} (hy : LI w.heap (ival y) y) (hn : y.m.n ≤ N') (hN : N ≤ N') : Fr w0 w L (dpSv (ups s j y) N' :: D) S :=
  hF.add _ (fun p hp => by
    rcases ups_mem hp with rfl | hp
    · exact ⟨hy, hn⟩
    · have := hF.sv h p hp; exact ⟨this.1, Nat.le_trans this.2 hN⟩) fun v _ h => h
theorem Fr.svMore (hF : Fr w0 w L D S) {s : SL} {N N' : Nat} (h : dpSv s N ∈ D) (hN : N ≤ N') : Fr w0 w L (dpSv s N' :: D) S :=
  hF.add _ (fun p hp => by have := hF.sv h p hp; exact ⟨this.1, Nat.le_trans this.2 hN⟩) fun v _ h => h
theorem sv_at {H : Array Obj} {s : SL} {N : Nat} (h : ∀ p ∈ s, LI H (ival p.2) p.2 ∧ p.2.m.n ≤ N) (j : Int) : GI H ((lkp s j).getD iv0) ∧ ((lkp s j).getD iv0).m.n ≤ N := by
  cases hq : lkp s j with
  | none => exact ⟨iv0_gi _, Nat.zero_le _⟩
  | some y => have := h _ (lkp_mem hq); exact ⟨this.1.g, this.2⟩
theorem ev_mlookJ (hF : Fr w0 w L D S) {x i : Operand} {ty k e : TypeId} [hT : UMap P ty k e] [hK : UKey P k Int intk] {sz b1 b : Nat} [hS : USize P e (.agg #[.bool false, .slice none 0 0]) sz b1] {l : SL} {y : Int} (hx : Go.Eng.look σ x = some (.map (some b))) (hi : Go.Eng.look σ i = some (intk y)) (hm : dpMp intk ivA b l ∈ D) :
    Ev P σ w.heap ⟨do_, .lookup ty x i false, t, pos, af, gd⟩ (ivA ((lkp l y).getD iv0)) := by
  have := ev_mlook (do_ := do_) (t := t) (pos := pos) (af := af) (gd := gd) (ty := ty) (P := P) hF hx hi hm
  rwa [elim_iv] at this
theorem ev_mlookQ (hF : Fr w0 w L D S) {x i : Operand} {ty k e : TypeId} [hT : UMap P ty k e] [hK : UKey P k Int intk] {sz b1 b : Nat} [hS : USize P e (.slice none 0 0) sz b1] {l : List (Int × S3)} {y : Int} {A : Option Addr} {n c : Nat} (hx : Go.Eng.look σ x = some (.map (some b))) (hi : Go.Eng.look σ i = some (intk y)) (hm : dpMp intk slc3 b l ∈ D) (h : (lkp l y).elim (Value.slice none 0 0) slc3 = .slice A n c) :
    Ev P σ w.heap ⟨do_, .lookup ty x i false, t, pos, af, gd⟩ (.slice A n c) := by
  have := ev_mlook (do_ := do_) (t := t) (pos := pos) (af := af) (gd := gd) (ty := ty) (P := P) hF hx hi hm
  rwa [h] at this
theorem ev_entryS (hF : Fr w0 w L D S) {p : Int × S3} {r b : Nat} {l done todo : List (Int × S3)} (hm : dpIt intk slc3 r b l (done ++ [p]) todo ∈ D) {x : Operand} (hx : Go.Eng.look σ x = some (.pointer (some ⟨r, 0, none⟩))) : Ev P σ w.heap ⟨do_, .entry x, t, pos, af, gd⟩ (.tuple #[.int .i64 p.1, .slice p.2.1 p.2.2.1 p.2.2.2]) := ev_entry hF hm hx
theorem ev_entryJ (hF : Fr w0 w L D S) {p : Int × IV} {r b : Nat} {l done todo : SL} (hm : dpIt intk ivA r b l (done ++ [p]) todo ∈ D) {x : Operand} (hx : Go.Eng.look σ x = some (.pointer (some ⟨r, 0, none⟩))) : Ev P σ w.heap ⟨do_, .entry x, t, pos, af, gd⟩ (.tuple #[.int .i64 p.1, ivA p.2]) := ev_entry hF hm hx
theorem Fr.it_lt (hF : Fr w0 w L D S) {K V : Type} {f : K → Value} {g : V → Value} {r b : Nat} {l d t : List (K × V)} (h : dpIt f g r b l d t ∈ D) : r < w.heap.size := by
  have := hF.data _ h
  unfold dpIt at this
  obtain ⟨es, c, E, T, _, _, h1, _⟩ := this
  exact (Array.getElem?_eq_some_iff.1 h1).1
theorem Fr.rw_it (hF : Fr w0 w L D S) {R : List RW} (h : dpRW R ∈ D) {K V : Type} {f : K → Value} {g : V → Value} {r b : Nat} {l d t : List (K × V)} (h2 : dpIt f g r b l d t ∈ D) : ¬ (dpRW R).fp r := fun ⟨r', hr', hk⟩ => by
  have := hF.data _ h2
  unfold dpIt at this
  obtain ⟨es, c, E, T, _, _, hm, _⟩ := this
  have hs := hF.rw h r' hr'
  obtain ⟨hn, o, e⟩ := hk
  have hl := hs.len
  have hp := hs.pos
  rcases hs.mem with h | ⟨b', o', e', _, hc⟩
  · omega
  · rw [e] at e'
    cases e'
    have hw := hs.wid r'.2.2[0] (List.getElem_mem (by omega))
    have := hc 0 r'.2.2[0] (List.getElem?_eq_getElem (by omega)) 0 (plc r'.2.2[0])[0] (List.getElem?_eq_getElem (by omega))
    unfold hcell at this
    rw [hm] at this
    cases this
/-- the rows of a grid join the facts -/
theorem Fr.addBy (hF : Fr w0 w L D S) {mb : Nat} {R : List RW} {ls : GL} (h : Fr w w' [] [dpMp intk slc3 mb (rowsM R), dpRW R, dpGv ls]) (hm : w.heap.size ≤ mb) (hf : ∀ r ∈ R, ∀ k, fpA r.2.1.1 r.2.1.2.1 k → w.heap.size ≤ k) : Fr w0 w' L (dpMp intk slc3 mb (rowsM R) :: dpRW R :: dpGv ls :: D) S := by
  have hE := h.ext
  have h1 := Fr.addGv (hF.exts hE) (Fr.gv h (l := ls) (by repeat (first | exact memH | apply memT)))
  have h2 : Fr w0 w' L (dpRW R :: dpGv ls :: D) S := h1.add _ (h.rw (by repeat (first | exact memH | apply memT))) fun v hv ⟨r, hr, hk⟩ => by
    have := (hF.vars v hv).2.lt
    have := hf r hr _ hk
    omega
  refine h2.add _ (by unfold dpMp; exact h.mp (by repeat (first | exact memH | apply memT))) fun v hv hk => ?_
  unfold dpMp at hk
  have := (hF.vars v hv).2.lt
  have hk2 : v.b = mb := hk
  omega
end
attribute [irreducible] dpSv

/-- the inner step of a product -/
theorem mul_step {gl gl2 ls2 : GL} {s : SL} {a b : Nat} {p q : (Int × Int) × IV} {y : IV} (hq : gl2[b]? = some q) (h : ∀ j, sz s j = rs (gl.take a) ls2 j + ival p.2 * cs (gl2.take b) j) (hy : ival y = ival p.2 * ival q.2 + sz s q.1.2) :
    ∀ j, sz (ups s q.1.2 y) j = rs (gl.take a) ls2 j + ival p.2 * cs (gl2.take (b + 1)) j := fun j => by
  rw [sz_ups, take_snoc hq, cs_snoc, Int.mul_add]
  by_cases hj : q.1.2 = j
  · subst hj; rw [if_pos rfl, if_pos rfl, hy, h]; omega
  · rw [if_neg hj, if_neg hj, h]; omega
theorem mul_row {gl ls2 : GL} {s : SL} {a : Nat} {p : (Int × Int) × IV} {X : Int → Int} (hp : gl[a]? = some p) (h : ∀ j, sz s j = rs (gl.take a) ls2 j + ival p.2 * X j) (hX : ∀ j, X j = zv ls2 (p.1.2, j)) : ∀ j, sz s j = rs (gl.take (a + 1)) ls2 j := fun j => by
  rw [h, hX, take_snoc hp, rs_snoc]
theorem sz_snoc {s : SL} {p : Int × IV} (h : p.1 ∉ s.map (·.1)) (j : Int) : sz (s ++ [p]) j = if p.1 = j then ival p.2 else sz s j := by
  have := ups_new h p.2
  unfold sz
  rw [← this, lkp_ups]
  by_cases hk : p.1 = j <;> simp [hk]
theorem sz_perm {s s' : SL} (hn : (s.map (·.1)).Nodup) (h : s.Perm s') (j : Int) : sz s j = sz s' j := by unfold sz; rw [lkp_perm hn h]
theorem mul_fin {gl ls1 ls2 lo lo4 : GL} {s d4 : SL} {i X Y : Int} (hsn : (s.map (·.1)).Nodup) (hp : s.Perm d4) (hs : ∀ j, sz s j = rs gl ls2 j) (hgi : gl = inRow i ls1) (h : zv lo4 (X, Y) = if X = i then sz d4 Y else zv lo (X, Y)) : zv lo4 (X, Y) = if X = i then mulZ ls1 ls2 (X, Y) else zv lo (X, Y) := by
  rw [h]
  by_cases hx : X = i
  · rw [if_pos hx, if_pos hx, ← sz_perm hsn hp, hs, mulZ_rs, hx, hgi]
  · rw [if_neg hx, if_neg hx]
theorem perm_new {K V : Type} {l done todo : List (K × V)} {p : K × V} (hn : (l.map (·.1)).Nodup) (hp : l.Perm (done ++ [p] ++ todo)) : p.1 ∉ done.map (·.1) := by
  have h1 : ((done ++ [p] ++ todo).map (·.1)).Nodup := ((hp.map _).nodup_iff).1 hn
  rw [List.map_append, List.map_append] at h1
  exact fun hm => (List.nodup_append.1 (List.nodup_append.1 h1).1).2.2 _ hm p.1 (by simp) rfl
end Go.Eng
namespace Go.Proofs.Ytlpheckjogphmaa
open Go Go.Eng Go.Proofs Go.NatM Go.RowKit
set_option maxHeartbeats 16000000 in
theorem gmul_ok (w : World) (g m g2 m2 r n c : Nat) (l l2 : GL) (hG : Gr w.heap g m r n l) (hG2 : Gr w.heap g2 m2 n c l2) (hl : l.length ≤ 4096) (hl2 : l2.length ≤ 4096) :
    Cl Try.prog 22 #[.pointer (some ⟨g, 0, none⟩), .pointer (some ⟨g2, 0, none⟩)] w
      (fun e w' => RetGZ w r c (mulZ l l2) e w' ∨ (Refw (mulZ l l2) ∧ RetLg w 5 e w')) := by
  have hn : (l.map (·.1)).Nodup := by obtain ⟨es, k, _, h⟩ := hG.mp; exact h.keys
  have hn2 : (l2.map (·.1)).Nodup := by obtain ⟨es, k, _, h⟩ := hG2.mp; exact h.keys
  have hF := Fr.mt (Fr.mt (Fr.refS w fun _ => False) (dpGr g m r n l) (by unfold dpGr; exact hG)) (dpGr g2 m2 n c l2) (by unfold dpGr; exact hG2)
  clear hG hG2
  refine enter Try.func22 rfl rfl rfl ?_
  repeat' (first | (refine TL.isOp ?_; first | (refine TL.isG ?_; first | refine TL.grun rfl rfl rfl ?_ | refine TL.gskip rfl rfl rfl rfl ?_ | refine TL.gskipU rfl rfl rfl ?_) | (refine TL.isCall ?_; refine TL.call rfl rfl ?_; first | (refine (blank_ok _ r c).mono ?_; rintro _ wy ⟨go, mo, rfl, hE, hgo, hmo, hGo⟩; have hz0 := hF.exs.size; replace hF := Fr.newParts hF hE hgo hmo hGo; replace hgo := Nat.le_trans hz0 hgo; replace hmo := Nat.le_trans hz0 hmo; have hgom := hGo.ne; clear hE hGo hz0; refine Back.mk ?_) | (refine (gbyrow_ok _ g2 m2 n c l2 (hF.grOf (g := g2) (l := l2) (by repeat (first | exact memH | apply memT))) (by omega)).mono ?_; rintro _ wy ⟨mr, R2, ls2, rfl, hmr, hFb, hg2, hk2, hnd2, hlen2, hzk2, hfr2⟩; have hmo_mr := Nat.ne_of_lt (Nat.lt_of_lt_of_le (hF.mp_lt (m := mo) (l := ([] : GL)) (by repeat (first | exact memH | apply memT))) hmr); have hz0 := hF.exs.size; replace hF := hF.addBy hFb hmr hfr2; replace hmr := Nat.le_trans hz0 hmr; clear hFb hz0 hfr2; refine Back.mk ?_) | (refine (gbyrow_ok _ g m r n l (hF.grOf (g := g) (l := l) (by repeat (first | exact memH | apply memT))) (by omega)).mono ?_; rintro _ wy ⟨ml, R1, ls1, rfl, hml, hFb, hg1, hk1, hnd1, hlen1, hzk1, hfr1⟩; have hmo_ml := Nat.ne_of_lt (Nat.lt_of_lt_of_le (hF.mp_lt (m := mo) (l := ([] : GL)) (by repeat (first | exact memH | apply memT))) hml); have hmr_ml := Nat.ne_of_lt (Nat.lt_of_lt_of_le (hF.mp_lt (m := mr) (l := rowsM R2) (by repeat (first | exact memH | apply memT))) hml); have hz0 := hF.exs.size; replace hF := hF.addBy hFb hml hfr1; replace hml := Nat.le_trans hz0 hml; clear hFb hz0 hfr1; refine Back.mk ?_)) | (refine TL.isBin ?_; refine TL.cmpG rfl rfl rfl rfl (fun hc => ?_) (fun hc => ?_) <;> (try (first | (exfalso; omega) | exact absurd rfl hc))) | (apply TL.ev; (case hd => rfl); (case h => (first | exact ev_simple rfl | (apply Ev.isBin; first | exact ev_arN rfl rfl rfl (by omega) | exact ev_arI rfl rfl rfl (by omega) | exact ev_eqlB (r := true) rfl rfl rfl | exact ev_eqlB (r := false) rfl rfl rfl | exact ev_neqB (r := true) rfl rfl rfl | exact ev_neqB (r := false) rfl rfl rfl | exact ev_eqlP rfl rfl rfl) | (apply Ev.isLoad; first | exact ev_loadFr hF rfl (by refine ⟨?_, ?_⟩; (focus (repeat (first | exact InV.head | apply InV.tail))); rfl) | exact ev_loadAFr hF rfl (by refine ⟨?_, ?_⟩; (focus (repeat (first | exact InV.head | apply InV.tail))); rfl) | exact ev_loadV rfl (hF.grOf (g := g) (l := l) (by repeat (first | exact memH | apply memT))).cells rfl | exact ev_loadV rfl (hF.grOf (g := g2) (l := l2) (by repeat (first | exact memH | apply memT))).cells rfl) | exact ev_len rfl | exact ev_fieldAddr rfl | exact ev_field rfl rfl | exact ev_fieldA rfl rfl | exact ev_buildX rfl rfl | exact ev_makeFunc rfl | exact ev_nilCheck rfl | exact ev_neg rfl (by omega) | exact ev_cap rfl))) | (refine TL.storeAFr hF rfl rfl rfl rfl (by refine ⟨?_, ?_⟩; (focus (repeat (first | apply SetV.head | apply SetV.tail))); rfl) rfl ?_; clear hF; intro ws hF) | (refine TL.storeFr hF rfl rfl rfl rfl (by refine ⟨?_, ?_⟩; (focus (repeat (first | apply SetV.head | apply SetV.tail))); rfl) rfl ?_; clear hF; intro ws hF) | (refine TL.rangeFr (f := intk) (g := slc3) (l := rowsM R1) hF rfl (by repeat (first | exact memH | apply memT)) rfl ?_; have hr := hF.exs.size; clear hF; intro wr rr er hF; replace hr := Nat.le_trans hr (Nat.le_of_eq er.symm); clear er) | (refine TL.boxAFr hF rfl rfl ?_; clear hF; intro wb bb hF) | (refine TL.boxFr hF rfl rfl ?_; clear hF; intro wb bb hF) | (refine TL.allocFr hF rfl rfl ?_; clear hF; intro wa ba hF)) | (refine TF.is ?_; first | refine TF.nil ?_ | refine TF.e rfl ?_ | refine TF.alt ?_ ?_ | (refine TF.pick rfl ?_; first | (refine TFo.cmpG rfl rfl rfl rfl (fun hc => ?_) (fun hc => ?_) <;> (try (first | (exfalso; omega) | exact absurd rfl hc))) | (refine TFo.cmpGg rfl rfl rfl rfl rfl rfl rfl (fun hc => ?_) (fun hc => ?_) <;> (try (first | (exfalso; omega) | exact absurd rfl hc))) | (apply TFo.ev; (case hd => rfl); (case h => (intro wh hF; first | exact ev_simple rfl | (apply Ev.isBin; first | exact ev_arN rfl rfl rfl (by omega) | exact ev_arI rfl rfl rfl (by omega) | exact ev_eqlB (r := true) rfl rfl rfl | exact ev_eqlB (r := false) rfl rfl rfl | exact ev_neqB (r := true) rfl rfl rfl | exact ev_neqB (r := false) rfl rfl rfl | exact ev_eqlP rfl rfl rfl) | (apply Ev.isLoad; first | exact ev_loadFr hF rfl (by refine ⟨?_, ?_⟩; (focus (repeat (first | exact InV.head | apply InV.tail))); rfl) | exact ev_loadAFr hF rfl (by refine ⟨?_, ?_⟩; (focus (repeat (first | exact InV.head | apply InV.tail))); rfl) | exact ev_loadV rfl (hF.grOf (g := g) (l := l) (by repeat (first | exact memH | apply memT))).cells rfl | exact ev_loadV rfl (hF.grOf (g := g2) (l := l2) (by repeat (first | exact memH | apply memT))).cells rfl) | exact ev_len rfl | exact ev_fieldAddr rfl | exact ev_field rfl rfl | exact ev_fieldA rfl rfl | exact ev_buildX rfl rfl | exact ev_makeFunc rfl | exact ev_nilCheck rfl | exact ev_neg rfl (by omega) | exact ev_cap rfl))) | (apply TFo.evg rfl rfl rfl; (case hd => rfl); (case h => (intro wh hF; first | exact ev_simple rfl | (apply Ev.isBin; first | exact ev_arN rfl rfl rfl (by omega) | exact ev_arI rfl rfl rfl (by omega) | exact ev_eqlB (r := true) rfl rfl rfl | exact ev_eqlB (r := false) rfl rfl rfl | exact ev_neqB (r := true) rfl rfl rfl | exact ev_neqB (r := false) rfl rfl rfl | exact ev_eqlP rfl rfl rfl) | (apply Ev.isLoad; first | exact ev_loadFr hF rfl (by refine ⟨?_, ?_⟩; (focus (repeat (first | exact InV.head | apply InV.tail))); rfl) | exact ev_loadAFr hF rfl (by refine ⟨?_, ?_⟩; (focus (repeat (first | exact InV.head | apply InV.tail))); rfl) | exact ev_loadV rfl (hF.grOf (g := g) (l := l) (by repeat (first | exact memH | apply memT))).cells rfl | exact ev_loadV rfl (hF.grOf (g := g2) (l := l2) (by repeat (first | exact memH | apply memT))).cells rfl) | exact ev_len rfl | exact ev_fieldAddr rfl | exact ev_field rfl rfl | exact ev_fieldA rfl rfl | exact ev_buildX rfl rfl | exact ev_makeFunc rfl | exact ev_nilCheck rfl | exact ev_neg rfl (by omega) | exact ev_cap rfl))) | refine TFo.skip rfl rfl rfl rfl ?_ | refine TFo.skipU rfl rfl rfl ?_)) | (refine T.is ?_; first | refine T.seq ?_ | refine T.region ?_ | refine T.block ?_ | refine T.cond_t rfl ?_ | refine T.cond_f rfl ?_ | refine T.exit ?_ | refine T.ret ?_ | refine T.skip ?_ | (refine T.regionFr hF 5 13 (.s 0 (.s 1 (.s 2 (.s 3 (.s 4 (.s 5 (.s 6 (.s 7 (.s 9 (.e 8 (.e 10 (.s 11 (.s 12 .nil))))))))))))) mixed (by kernel_rfl) ?_; clear hF; intro wr hF) | (refine T.regionFr hF 16 12 (.s 0 (.s 1 (.s 2 (.s 3 (.s 4 (.s 5 (.s 6 (.s 7 (.s 8 (.s 9 (.e 10 (.e 11 (.e 12 .nil))))))))))))) mixed (by kernel_rfl) ?_; clear hF; intro wr hF) | refine T.regionQ mixed (by kernel_rfl) ?_) | (refine G.is ?_; first | refine G.next ?_ | refine G.blockN ?_ | refine G.blockE ?_ | refine G.blockE' rfl ?_ | refine G.blockR ?_ | refine G.thenE ?_ | refine G.thenR ?_ | refine G.only ?_ | refine G.treeEnd rfl ?_ | refine G.tree rfl (by first | exact hF | exact hF.weak (List.sublist_append_right _ _) (by repeat (first | exact allR | apply allT)) | exact hF.weak (by repeat (first | exact List.Sublist.refl _ | apply List.Sublist.cons)) (by repeat (first | exact allR | apply allT)) | exact hF.weak (by repeat (first | exact List.Sublist.refl _ | apply List.Sublist.cons)) (by repeat (first | exact allN | refine allH (by repeat (first | exact memH | apply memT)) ?_))) ?_) | refine TL.nil ?_ | (refine TL.nilFr hF ?_; clear hF; intro wq hF))
  have hR1 : (R1.map (·.1)).Nodup := by
    obtain ⟨es, x, _, hq⟩ := hF.mp (show dpMp intk slc3 ml (rowsM R1) ∈ _ from (by repeat (first | exact memH | apply memT)))
    rw [← rowsM_keys]; exact hq.keys
  have hR2 : (R2.map (·.1)).Nodup := by
    obtain ⟨es, x, _, hq⟩ := hF.mp (show dpMp intk slc3 mr (rowsM R2) ∈ _ from (by repeat (first | exact memH | apply memT)))
    rw [← rowsM_keys]; exact hq.keys
  have hmo_rr := hF.it_mp (m := mo) (l2 := ([] : GL)) (by repeat (first | exact memH | apply memT)) (by repeat (first | exact memH | apply memT))
  have hmr_rr := hF.it_mp (m := mr) (l2 := rowsM R2) (by repeat (first | exact memH | apply memT)) (by repeat (first | exact memH | apply memT))
  have hml_rr := hF.it_mp (m := ml) (l2 := rowsM R1) (by repeat (first | exact memH | apply memT)) (by repeat (first | exact memH | apply memT))
  have hZ := mulZ_congr hn hnd1 hzk1 hzk2
  refine T.loop (α := List (Int × S3) × List (Int × S3) × GL) (fun x => [(6, .pointer (some ⟨go, 0, none⟩)), (7, .map (some mr)), (47, .pointer (some ⟨rr, 0, none⟩))])
    (fun x w' => (rowsM R1).Perm (x.1 ++ x.2.1) ∧ (NZ x.2.2 ∧ (∀ X Y, zv x.2.2 (X, Y) = if X ∈ x.1.map (·.1) then mulZ ls1 ls2 (X, Y) else 0) ∧ x.2.2.length ≤ 4096) ∧ Fr w w' [] [dpIt intk slc3 rr ml (rowsM R1) x.1 x.2.1, dpMp spot ivA mo x.2.2, dpCb go 96 (grc r c mo), dpGv x.2.2, dpMp intk slc3 mr (rowsM R2), dpRW R2, dpGv ls2, dpMp intk slc3 ml (rowsM R1), dpRW R1, dpGv ls1]) (fun x => x.2.1.length) ([], rowsM R1, []) (by repeat (first | exact Sub.nil _ | refine Sub.cons rfl ?_ | refine Sub.cons' rfl (int_congr (by omega)) ?_)) ⟨List.Perm.refl _, ⟨fun p hp => (by cases hp), fun X Y => rfl, Nat.zero_le _⟩, hF.weak (.refl _) (allH (by repeat (first | exact memH | apply memT)) (allH (by repeat (first | exact memH | apply memT)) (allH (by repeat (first | exact memH | apply memT)) (allH (by repeat (first | exact memH | apply memT)) (allH (by repeat (first | exact memH | apply memT)) (allH (by repeat (first | exact memH | apply memT)) (allH (by repeat (first | exact memH | apply memT)) (allH (by repeat (first | exact memH | apply memT)) (allH (by repeat (first | exact memH | apply memT)) (allH (by repeat (first | exact memH | apply memT)) allN))))))))))⟩ ?_
  clear hF
  rintro ⟨done, todo, lo⟩ w1 ⟨hp, ⟨hnz, hzv, hlo⟩, hF⟩
  dsimp only at hp hnz hzv hlo hF ⊢
  repeat' (first | (refine TL.isOp ?_; first | (refine TL.isG ?_; first | refine TL.grun rfl rfl rfl ?_ | refine TL.gskip rfl rfl rfl rfl ?_ | refine TL.gskipU rfl rfl rfl ?_) | (refine TL.isBin ?_; refine TL.cmpG rfl rfl rfl rfl (fun hc => ?_) (fun hc => ?_) <;> (try (first | (exfalso; omega) | exact absurd rfl hc))) | (apply TL.ev; (case hd => rfl); (case h => (first | exact ev_simple rfl | (apply Ev.isBin; first | exact ev_arN rfl rfl rfl (by omega) | exact ev_arI rfl rfl rfl (by omega) | exact ev_eqlB (r := true) rfl rfl rfl | exact ev_eqlB (r := false) rfl rfl rfl | exact ev_neqB (r := true) rfl rfl rfl | exact ev_neqB (r := false) rfl rfl rfl) | (apply Ev.isLoad; first | exact ev_loadFr hF rfl (by refine ⟨?_, ?_⟩; (focus (repeat (first | exact InV.head | apply InV.tail))); rfl) | exact ev_loadAFr hF rfl (by refine ⟨?_, ?_⟩; (focus (repeat (first | exact InV.head | apply InV.tail))); rfl)) | exact ev_len rfl | exact ev_fieldAddr rfl | exact ev_field rfl rfl | exact ev_fieldA rfl rfl | exact ev_buildX rfl rfl | exact ev_makeFunc rfl | exact ev_nilCheck rfl | exact ev_neg rfl (by omega) | exact ev_cap rfl | exact ev_entryS hF (by repeat (first | exact memH | apply memT)) rfl))) | (refine TL.storeAFr hF rfl rfl rfl rfl (by refine ⟨?_, ?_⟩; (focus (repeat (first | apply SetV.head | apply SetV.tail))); rfl) rfl ?_; clear hF; intro ws hF) | (refine TL.storeFr hF rfl rfl rfl rfl (by refine ⟨?_, ?_⟩; (focus (repeat (first | apply SetV.head | apply SetV.tail))); rfl) rfl ?_; clear hF; intro ws hF) | (refine TL.nextFr hF (.inl hr) (nfC (nf_mp hmo_rr) (nfC (nf_cb (hF.it_cb (show dpIt intk slc3 rr ml (rowsM R1) done todo ∈ _ from (by repeat (first | exact memH | apply memT))) (by repeat (first | exact memH | apply memT)))) (nfC nf_gv (nfC (nf_mp hmr_rr) (nfC (hF.rw_it (by repeat (first | exact memH | apply memT)) (show dpIt intk slc3 rr ml (rowsM R1) done todo ∈ _ from (by repeat (first | exact memH | apply memT)))) (nfC nf_gv (nfC (nf_mp hml_rr) (nfC (hF.rw_it (by repeat (first | exact memH | apply memT)) (show dpIt intk slc3 rr ml (rowsM R1) done todo ∈ _ from (by repeat (first | exact memH | apply memT)))) (nfC nf_gv nfN))))))))) rfl rfl (fun h0 wn hFn => ?_) (fun p todo' wn ht hFn => ?_) <;> clear hF <;> have hF := hFn <;> clear hFn) | (refine TL.makeMpFr intk ivA hF (d := 53) rfl ?_; have hms_s := hF.exs.size; have hmo_ms := hF.mp_lt (m := mo) (l := lo) (by repeat (first | exact memH | apply memT)); have hmr_ms := hF.mp_lt (m := mr) (l := rowsM R2) (by repeat (first | exact memH | apply memT)); have hml_ms := hF.mp_lt (m := ml) (l := rowsM R1) (by repeat (first | exact memH | apply memT)); have hrr_ms := hF.it_lt (show dpIt intk slc3 rr ml (rowsM R1) (done ++ [p]) todo' ∈ _ from (by repeat (first | exact memH | apply memT))); clear hF; intro w53 ms em hF; rw [← em] at hmo_ms hmr_ms hml_ms hrr_ms; replace hms_s := Nat.le_trans hms_s (Nat.le_of_eq em.symm); clear em) | (refine TL.boxAFr hF rfl rfl ?_; clear hF; intro wb bb hF) | (refine TL.boxFr hF rfl rfl ?_; clear hF; intro wb bb hF) | (refine TL.allocFr hF rfl rfl ?_; clear hF; intro wa ba hF)) | (refine T.is ?_; first | refine T.seq ?_ | refine T.region ?_ | refine T.block ?_ | refine T.cond_t rfl ?_ | refine T.cond_f rfl ?_ | refine T.exit ?_ | refine T.ret ?_ | refine T.skip ?_ | refine T.regionQ mixed (by kernel_rfl) ?_) | (refine G.is ?_; first | refine G.next ?_ | refine G.blockN ?_ | refine G.blockE ?_ | refine G.blockE' rfl ?_ | refine G.blockR ?_ | refine G.thenE ?_ | refine G.thenR ?_ | refine G.only ?_) | refine TL.nil ?_ | (refine TL.nilFr hF ?_; clear hF; intro wq hF))
  · subst h0
    rw [List.append_nil] at hp
    have hGe := hF.gr (g := go) (m := mo) (r := r) (c := c) (l := lo) (by repeat (first | exact memH | apply memT)) (by repeat (first | exact memH | apply memT)) (by repeat (first | exact memH | apply memT))
    have hzz : ∀ k, zv lo k = mulZ l l2 k := fun ⟨X, Y⟩ => by
      rw [hzv, ← hZ]
      split
      · rfl
      · rename_i hx
        rw [mulZ_rs, ← hg1, inRow_no (fun r hr => (hk1 r hr).2.2) (fun hm => hx ((hp.map _).mem_iff.1 (by rw [rowsM_keys]; exact hm)))]; rfl
    exact G.ret2 rfl rfl rfl (.inl ⟨go, mo, lo, rfl, hF.ext, hgo, hmo, hGe, hnz, hlo, hzz, fun k => by rw [← hzz]; exact gv_small hGe.vals k⟩)
  · obtain ⟨r1, hr1, hrp⟩ := List.mem_map.1 (pm_mem hp ht)
    have hp1 : r1.1 = p.1 := congrArg (·.1) hrp
    have hp2 : r1.2.1 = p.2 := congrArg (·.2) hrp
    obtain ⟨gl, hgl⟩ : ∃ gl, gl = r1.2.2 := ⟨_, rfl⟩
    have hgn : p.2.2.1 = gl.length := by rw [← hp2, hgl]; exact (hk1 r1 hr1).2.1
    have hgi : gl = inRow p.1 ls1 := by rw [hgl, ← hp1, ← hg1, inRow_rows hR1 (fun r hr => (hk1 r hr).2.2) r1 hr1]
    have hgle : gl.length ≤ 4096 := by have := inRow_len p.1 ls1; rw [← hgi] at this; omega
    have hS1 : ∀ {w1 : World} {L : List VB} {D : List DP}, Fr w w1 L D → dpRW R1 ∈ D → Sm 4 plc w1.heap w1.heap.size p.2.1 p.2.2.1 p.2.2.2 gl := fun hF hm => by have := Fr.rw hF hm r1 hr1; rw [hp2, ← hgl] at this; exact this
    have hgv1 : ∀ q ∈ gl, q ∈ ls1 := fun q hq => by rw [hgi] at hq; exact (mem_inRow.1 hq).1
    have hne := hp.trans (ht.append_left done)
    have hpd : p.1 ∉ done.map (·.1) := perm_new (by rw [rowsM_keys]; exact hR1) (step_perm hp ht)
    clear hrp hgl
    refine T.loop (α := Nat × SL) (fun x => [(6, .pointer (some ⟨go, 0, none⟩)), (7, .map (some mr)), (8, .int .i64 p.1), (10, .map (some ms)), (47, .pointer (some ⟨rr, 0, none⟩)), (54, .slice p.2.1 p.2.2.1 p.2.2.2), (55, .int .i64 (p.2.2.1 : Int)), (56, .int .i64 (x.1 : Int))])
      (fun x w' => (x.1 ≤ gl.length ∧ ∀ j, sz x.2 j = rs (gl.take x.1) ls2 j) ∧ Fr w w' [] [dpMp intk ivA ms x.2, dpSv x.2 (32769 + x.1 * 4097), dpIt intk slc3 rr ml (rowsM R1) (done ++ [p]) todo', dpMp spot ivA mo lo, dpCb go 96 (grc r c mo), dpGv lo, dpMp intk slc3 mr (rowsM R2), dpRW R2, dpGv ls2, dpMp intk slc3 ml (rowsM R1), dpRW R1, dpGv ls1]) (fun x => gl.length - x.1) (0, []) (by repeat (first | exact Sub.nil _ | refine Sub.cons rfl ?_ | refine Sub.cons' rfl (int_congr (by omega)) ?_)) ⟨⟨Nat.zero_le _, fun j => rfl⟩, by
        have h0 : Fr w w53 [] (dpSv [] (32769 + 0 * 4097) :: _) _ := hF.add (dpSv [] (32769 + 0 * 4097)) (by unfold dpSv; exact fun q hq => (by cases hq)) fun v hv => (by cases hv)
        exact h0.weak (.refl _) (allH (by repeat (first | exact memH | apply memT)) (allH (by repeat (first | exact memH | apply memT)) (allH (by repeat (first | exact memH | apply memT)) (allH (by repeat (first | exact memH | apply memT)) (allH (by repeat (first | exact memH | apply memT)) (allH (by repeat (first | exact memH | apply memT)) (allH (by repeat (first | exact memH | apply memT)) (allH (by repeat (first | exact memH | apply memT)) (allH (by repeat (first | exact memH | apply memT)) (allH (by repeat (first | exact memH | apply memT)) (allH (by repeat (first | exact memH | apply memT)) (allH (by repeat (first | exact memH | apply memT)) allN))))))))))))⟩ ?_
    clear hF
    rintro ⟨a, s⟩ w2 ⟨⟨ha, hs⟩, hF⟩
    dsimp only at ha hs hF ⊢
    rcases Nat.lt_or_ge a gl.length with han | han
    · have han2 : a < p.2.2.1 := by omega
      obtain ⟨p1, hq1⟩ : ∃ p1, gl[a]? = some p1 := ⟨_, List.getElem?_eq_getElem han⟩
      obtain ⟨hra, hrb, hrc⟩ := rowAt_spec hR2 hk2 p1.1.2
      rw [hg2] at hrc
      generalize hR : Go.Eng.rowAt R2 p1.1.2 = ra at hra hrb hrc
      obtain ⟨rk, ⟨A2, n2, c2⟩, gl2⟩ := ra
      dsimp only at hra hrc
      have hg2le : gl2.length ≤ 4096 := by have := inRow_len p1.1.2 ls2; rw [← hrc] at this; omega
      have hS2 : ∀ {w1 : World} {L : List VB} {D : List DP}, Fr w w1 L D → dpRW R2 ∈ D → Sm 4 plc w1.heap w1.heap.size A2 gl2.length c2 gl2 := fun hF hm => by
        rcases hrb with hrb | hrb
        · have h1 := Fr.rw hF hm _ hrb
          have h2 := (hk2 _ hrb).2.1
          dsimp only at h1 h2
          rw [h2] at h1; exact h1
        · simp only [Prod.mk.injEq] at hrb
          obtain ⟨_, ⟨rfl, rfl, rfl⟩, rfl⟩ := hrb
          exact ⟨rfl, Nat.le_refl _, by decide, fun _ h => (by cases h), .inl rfl⟩
      have hgv2 : ∀ q ∈ gl2, q ∈ ls2 := fun q hq => by rw [hrc] at hq; exact (mem_inRow.1 hq).1
      have hcs : ∀ j, cs gl2 j = zv ls2 (p1.1.2, j) := fun j => by
        have h := cs_zv (k := p1.1.2) (gl := inRow p1.1.2 ls2) (hnd2.sublist (List.filter_sublist.map _)) (fun q hq => (mem_inRow.1 hq).2) j
        rw [hrc, h, zv_inRow]; simp
      repeat' (first | (refine TL.isOp ?_; first | (refine TL.isG ?_; first | refine TL.grun rfl rfl rfl ?_ | refine TL.gskip rfl rfl rfl rfl ?_ | refine TL.gskipU rfl rfl rfl ?_) | (refine TL.isBin ?_; refine TL.cmpG rfl rfl rfl rfl (fun hc => ?_) (fun hc => ?_) <;> (try (first | (exfalso; omega) | exact absurd rfl hc))) | (apply TL.ev; (case hd => rfl); (case h => (first | exact ev_simple rfl | (apply Ev.isBin; first | exact ev_arN rfl rfl rfl (by omega) | exact ev_arI rfl rfl rfl (by omega) | exact ev_eqlB (r := true) rfl rfl rfl | exact ev_eqlB (r := false) rfl rfl rfl | exact ev_neqB (r := true) rfl rfl rfl | exact ev_neqB (r := false) rfl rfl rfl) | (apply Ev.isLoad; first | exact ev_loadFr hF rfl (by refine ⟨?_, ?_⟩; (focus (repeat (first | exact InV.head | apply InV.tail))); rfl) | exact ev_loadAFr hF rfl (by refine ⟨?_, ?_⟩; (focus (repeat (first | exact InV.head | apply InV.tail))); rfl) | exact ev_loadMc [.int .i64 p1.1.1, .int .i64 p1.1.2, .bool p1.2.neg, .slice p1.2.m.A p1.2.m.n p1.2.m.c] rfl (hS1 hF (by repeat (first | exact memH | apply memT))) hq1 rfl) | exact ev_len rfl | exact ev_fieldAddr rfl | exact ev_field rfl rfl | exact ev_fieldA rfl rfl | exact ev_buildX rfl rfl | exact ev_makeFunc rfl | exact ev_nilCheck rfl | exact ev_neg rfl (by omega) | exact ev_cap rfl | exact ev_indexM rfl rfl han2 (hS1 hF (by repeat (first | exact memH | apply memT))).some | exact ev_mlookQ hF (y := p1.1.2) rfl rfl (by repeat (first | exact memH | apply memT)) hra))) | (refine TL.storeAFr hF rfl rfl rfl rfl (by refine ⟨?_, ?_⟩; (focus (repeat (first | apply SetV.head | apply SetV.tail))); rfl) rfl ?_; clear hF; intro ws hF) | (refine TL.storeFr hF rfl rfl rfl rfl (by refine ⟨?_, ?_⟩; (focus (repeat (first | apply SetV.head | apply SetV.tail))); rfl) rfl ?_; clear hF; intro ws hF) | (refine TL.allocFr hF (d := 12) rfl rfl ?_; clear hF; intro w12 b12 hF) | (refine TL.boxAFr hF rfl rfl ?_; clear hF; intro wb bb hF) | (refine TL.boxFr hF rfl rfl ?_; clear hF; intro wb bb hF) | (refine TL.allocFr hF rfl rfl ?_; clear hF; intro wa ba hF)) | (refine T.is ?_; first | refine T.seq ?_ | refine T.region ?_ | refine T.block ?_ | refine T.cond_t rfl ?_ | refine T.cond_f rfl ?_ | refine T.exit ?_ | refine T.ret ?_ | refine T.skip ?_ | refine T.regionQ mixed (by kernel_rfl) ?_) | (refine G.is ?_; first | refine G.next ?_ | refine G.blockN ?_ | refine G.blockE ?_ | refine G.blockE' rfl ?_ | refine G.blockR ?_ | refine G.thenE ?_ | refine G.thenR ?_ | refine G.only ?_) | refine TL.nil ?_ | (refine TL.nilFr hF ?_; clear hF; intro wq hF))
      refine T.loop (α := Nat × SL) (fun x => [(6, .pointer (some ⟨go, 0, none⟩)), (7, .map (some mr)), (8, .int .i64 p.1), (10, .map (some ms)), (12, .pointer (some ⟨b12, 0, none⟩)), (47, .pointer (some ⟨rr, 0, none⟩)), (54, .slice p.2.1 p.2.2.1 p.2.2.2), (55, .int .i64 (p.2.2.1 : Int)), (56, .int .i64 (a : Int)), (63, .slice A2 gl2.length c2), (64, .int .i64 (gl2.length : Int)), (65, .int .i64 (x.1 : Int))])
        (fun x w' => (x.1 ≤ gl2.length ∧ ∀ j, sz x.2 j = rs (gl.take a) ls2 j + ival p1.2 * cs (gl2.take x.1) j) ∧ Fr w w' [⟨b12, 46, [.int .i64 p1.1.1, .int .i64 p1.1.2, .bool p1.2.neg, .slice p1.2.m.A p1.2.m.n p1.2.m.c]⟩] [dpMp intk ivA ms x.2, dpSv x.2 (32769 + a * 4097 + x.1), dpIt intk slc3 rr ml (rowsM R1) (done ++ [p]) todo', dpMp spot ivA mo lo, dpCb go 96 (grc r c mo), dpGv lo, dpMp intk slc3 mr (rowsM R2), dpRW R2, dpGv ls2, dpMp intk slc3 ml (rowsM R1), dpRW R1, dpGv ls1]) (fun x => gl2.length - x.1) (0, s) (by repeat (first | exact Sub.nil _ | refine Sub.cons rfl ?_ | refine Sub.cons' rfl (int_congr (by omega)) ?_)) ⟨⟨Nat.zero_le _, fun j => by rw [hs]; show _ = _ + ival p1.2 * 0; rw [Int.mul_zero, Int.add_zero]⟩, hF⟩ ?_
      clear hF
      clear hs s
      rintro ⟨b, s⟩ w3 ⟨⟨hb, hs⟩, hF⟩
      dsimp only at hb hs hF ⊢
      rcases Nat.lt_or_ge b gl2.length with hbn | hbn
      · obtain ⟨q, hq2⟩ : ∃ q, gl2[b]? = some q := ⟨_, List.getElem?_eq_getElem hbn⟩
        have hqm := hgv2 q (List.mem_of_getElem? hq2)
        have hpm1 := hgv1 p1 (List.mem_of_getElem? hq1)
        repeat' (first | (refine TL.isOp ?_; first | (refine TL.isG ?_; first | refine TL.grun rfl rfl rfl ?_ | refine TL.gskip rfl rfl rfl rfl ?_ | refine TL.gskipU rfl rfl rfl ?_) | (refine TL.isCall ?_; refine TL.call rfl rfl ?_; first | (refine (zmulAdd_ok _ p1.2 q.2 ((lkp s q.1.2).getD iv0) (Fr.gv (l := ls1) hF (by repeat (first | exact memH | apply memT)) p1 hpm1).1.g (Fr.gv (l := ls2) hF (by repeat (first | exact memH | apply memT)) q hqm).1.g (sv_at (hF.sv (s := s) (by repeat (first | exact memH | apply memT))) q.1.2).1 (Nat.le_trans (Fr.gv (l := ls1) hF (by repeat (first | exact memH | apply memT)) p1 hpm1).2 (by decide)) (Nat.le_trans (Fr.gv (l := ls2) hF (by repeat (first | exact memH | apply memT)) q hqm).2 (by decide)) (Nat.le_trans (sv_at (hF.sv (s := s) (by repeat (first | exact memH | apply memT))) q.1.2).2 (by omega))).mono ?_; rintro _ wy ⟨y, rfl, hy, hE, hyn⟩; have hyn2 : y.m.n ≤ 32769 + a * 4097 + (b + 1) := (by have a1 := (Fr.gv (l := ls1) hF (by repeat (first | exact memH | apply memT)) p1 hpm1).2; have a2 := (Fr.gv (l := ls2) hF (by repeat (first | exact memH | apply memT)) q hqm).2; have a3 := (sv_at (hF.sv (s := s) (by repeat (first | exact memH | apply memT))) q.1.2).2; omega); have hyv := hy.val; replace hF := Fr.addLI (hF.exts hE) (hyv.symm ▸ hy); clear hE hy hyn; refine Back.mk ?_)) | (refine TL.isBin ?_; refine TL.cmpG rfl rfl rfl rfl (fun hc => ?_) (fun hc => ?_) <;> (try (first | (exfalso; omega) | exact absurd rfl hc))) | (apply TL.ev; (case hd => rfl); (case h => (first | exact ev_simple rfl | (apply Ev.isBin; first | exact ev_arN rfl rfl rfl (by omega) | exact ev_arI rfl rfl rfl (by omega) | exact ev_eqlB (r := true) rfl rfl rfl | exact ev_eqlB (r := false) rfl rfl rfl | exact ev_neqB (r := true) rfl rfl rfl | exact ev_neqB (r := false) rfl rfl rfl) | (apply Ev.isLoad; first | exact ev_loadFr hF rfl (by refine ⟨?_, ?_⟩; (focus (repeat (first | exact InV.head | apply InV.tail))); rfl) | exact ev_loadAFr hF rfl (by refine ⟨?_, ?_⟩; (focus (repeat (first | exact InV.head | apply InV.tail))); rfl) | exact ev_loadMc [.int .i64 q.1.1, .int .i64 q.1.2, .bool q.2.neg, .slice q.2.m.A q.2.m.n q.2.m.c] rfl (hS2 hF (by repeat (first | exact memH | apply memT))) hq2 rfl) | exact ev_len rfl | exact ev_fieldAddr rfl | exact ev_field rfl rfl | exact ev_fieldA rfl rfl | exact ev_buildX rfl rfl | exact ev_makeFunc rfl | exact ev_nilCheck rfl | exact ev_neg rfl (by omega) | exact ev_cap rfl | exact ev_indexM rfl rfl hbn (hS2 hF (by repeat (first | exact memH | apply memT))).some | exact ev_mlookJ hF (l := s) (y := q.1.2) rfl rfl (by repeat (first | exact memH | apply memT))))) | (refine TL.storeAFr hF rfl rfl rfl rfl (by refine ⟨?_, ?_⟩; (focus (repeat (first | apply SetV.head | apply SetV.tail))); rfl) rfl ?_; clear hF; intro ws hF) | (refine TL.storeFr hF rfl rfl rfl rfl (by refine ⟨?_, ?_⟩; (focus (repeat (first | apply SetV.head | apply SetV.tail))); rfl) rfl ?_; clear hF; intro ws hF) | (refine TL.allocFr hF (d := 14) rfl rfl ?_; clear hF; intro w14 b14 hF) | (refine TL.mupd (Fr.swapD hF) (.inl hms_s) (nfC nf_li (nfC nf_sv (nfC (nf_it (Nat.ne_of_lt hrr_ms) (Nat.ne_of_lt hml_ms)) (nfC (nf_mp (Nat.ne_of_lt hmo_ms)) (nfC (nf_cb (hF.cb_ne (g := go) (m := ms) (l := s) (by repeat (first | exact memH | apply memT)) (by repeat (first | exact memH | apply memT)))) (nfC nf_gv (nfC (nf_mp (Nat.ne_of_lt hmr_ms)) (nfC (hF.rw_mp (by repeat (first | exact memH | apply memT)) (show dpMp intk ivA ms s ∈ _ from (by repeat (first | exact memH | apply memT)))) (nfC nf_gv (nfC (nf_mp (Nat.ne_of_lt hml_ms)) (nfC (hF.rw_mp (by repeat (first | exact memH | apply memT)) (show dpMp intk ivA ms s ∈ _ from (by repeat (first | exact memH | apply memT)))) (nfC nf_gv nfN)))))))))))) (q := q.1.2) (v := y) rfl rfl rfl ?_; clear hF; intro wu hF) | (refine TL.boxAFr hF rfl rfl ?_; clear hF; intro wb bb hF) | (refine TL.boxFr hF rfl rfl ?_; clear hF; intro wb bb hF) | (refine TL.allocFr hF rfl rfl ?_; clear hF; intro wa ba hF)) | (refine TF.is ?_; first | refine TF.nil ?_ | refine TF.e rfl ?_ | refine TF.alt ?_ ?_ | (refine TF.pick rfl ?_; first | (refine TFo.cmpG rfl rfl rfl rfl (fun hc => ?_) (fun hc => ?_) <;> (try (first | (exfalso; omega) | exact absurd rfl hc))) | (refine TFo.cmpGg rfl rfl rfl rfl rfl rfl rfl (fun hc => ?_) (fun hc => ?_) <;> (try (first | (exfalso; omega) | exact absurd rfl hc))) | (apply TFo.ev; (case hd => rfl); (case h => (intro wh hF; first | exact ev_simple rfl | (apply Ev.isBin; first | exact ev_arN rfl rfl rfl (by omega) | exact ev_arI rfl rfl rfl (by omega) | exact ev_eqlB (r := true) rfl rfl rfl | exact ev_eqlB (r := false) rfl rfl rfl | exact ev_neqB (r := true) rfl rfl rfl | exact ev_neqB (r := false) rfl rfl rfl) | (apply Ev.isLoad; first | exact ev_loadFr hF rfl (by refine ⟨?_, ?_⟩; (focus (repeat (first | exact InV.head | apply InV.tail))); rfl) | exact ev_loadAFr hF rfl (by refine ⟨?_, ?_⟩; (focus (repeat (first | exact InV.head | apply InV.tail))); rfl) | exact ev_loadMc [.int .i64 q.1.1, .int .i64 q.1.2, .bool q.2.neg, .slice q.2.m.A q.2.m.n q.2.m.c] rfl (hS2 hF (by repeat (first | exact memH | apply memT))) hq2 rfl) | exact ev_len rfl | exact ev_fieldAddr rfl | exact ev_field rfl rfl | exact ev_fieldA rfl rfl | exact ev_buildX rfl rfl | exact ev_makeFunc rfl | exact ev_nilCheck rfl | exact ev_neg rfl (by omega) | exact ev_cap rfl | exact ev_indexM rfl rfl hbn (hS2 hF (by repeat (first | exact memH | apply memT))).some | exact ev_mlookJ hF (l := s) (y := q.1.2) rfl rfl (by repeat (first | exact memH | apply memT))))) | (apply TFo.evg rfl rfl rfl; (case hd => rfl); (case h => (intro wh hF; first | exact ev_simple rfl | (apply Ev.isBin; first | exact ev_arN rfl rfl rfl (by omega) | exact ev_arI rfl rfl rfl (by omega) | exact ev_eqlB (r := true) rfl rfl rfl | exact ev_eqlB (r := false) rfl rfl rfl | exact ev_neqB (r := true) rfl rfl rfl | exact ev_neqB (r := false) rfl rfl rfl) | (apply Ev.isLoad; first | exact ev_loadFr hF rfl (by refine ⟨?_, ?_⟩; (focus (repeat (first | exact InV.head | apply InV.tail))); rfl) | exact ev_loadAFr hF rfl (by refine ⟨?_, ?_⟩; (focus (repeat (first | exact InV.head | apply InV.tail))); rfl) | exact ev_loadMc [.int .i64 q.1.1, .int .i64 q.1.2, .bool q.2.neg, .slice q.2.m.A q.2.m.n q.2.m.c] rfl (hS2 hF (by repeat (first | exact memH | apply memT))) hq2 rfl) | exact ev_len rfl | exact ev_fieldAddr rfl | exact ev_field rfl rfl | exact ev_fieldA rfl rfl | exact ev_buildX rfl rfl | exact ev_makeFunc rfl | exact ev_nilCheck rfl | exact ev_neg rfl (by omega) | exact ev_cap rfl | exact ev_indexM rfl rfl hbn (hS2 hF (by repeat (first | exact memH | apply memT))).some | exact ev_mlookJ hF (l := s) (y := q.1.2) rfl rfl (by repeat (first | exact memH | apply memT))))) | refine TFo.skip rfl rfl rfl rfl ?_ | refine TFo.skipU rfl rfl rfl ?_)) | (refine T.is ?_; first | refine T.seq ?_ | refine T.region ?_ | refine T.block ?_ | refine T.cond_t rfl ?_ | refine T.cond_f rfl ?_ | refine T.exit ?_ | refine T.ret ?_ | refine T.skip ?_ | (refine T.regionFr hF 5 13 (.s 0 (.s 1 (.s 2 (.s 3 (.s 4 (.s 5 (.s 6 (.s 7 (.s 9 (.e 8 (.e 10 (.s 11 (.s 12 .nil))))))))))))) mixed (by kernel_rfl) ?_; clear hF; intro wr hF) | (refine T.regionFr hF 16 12 (.s 0 (.s 1 (.s 2 (.s 3 (.s 4 (.s 5 (.s 6 (.s 7 (.s 8 (.s 9 (.e 10 (.e 11 (.e 12 .nil))))))))))))) mixed (by kernel_rfl) ?_; clear hF; intro wr hF) | refine T.regionQ mixed (by kernel_rfl) ?_) | (refine G.is ?_; first | refine G.next ?_ | refine G.blockN ?_ | refine G.blockE ?_ | refine G.blockE' rfl ?_ | refine G.blockR ?_ | refine G.thenE ?_ | refine G.thenR ?_ | refine G.only ?_ | refine G.treeEnd rfl ?_ | refine G.tree rfl (by first | exact hF | exact hF.weak (List.sublist_append_right _ _) (by repeat (first | exact allR | apply allT)) | exact hF.weak (by repeat (first | exact List.Sublist.refl _ | apply List.Sublist.cons)) (by repeat (first | exact allR | apply allT)) | exact hF.weak (by repeat (first | exact List.Sublist.refl _ | apply List.Sublist.cons)) (by repeat (first | exact allN | refine allH (by repeat (first | exact memH | apply memT)) ?_))) ?_) | refine TL.nil ?_ | (refine TL.nilFr hF ?_; clear hF; intro wq hF))
        all_goals
          have hF2 := hF.svPut (s := s) (j := q.1.2) (y := y) (by repeat (first | exact memH | apply memT)) (Fr.li hF (x := y) (z := ival y) (by repeat (first | exact memH | apply memT))) hyn2 (by omega)
          exact G.again (b + 1, ups s q.1.2 y) (by repeat (first | exact Sub.nil _ | refine Sub.cons rfl ?_ | refine Sub.cons' rfl (int_congr (by omega)) ?_)) ⟨⟨hbn, mul_step hq2 hs hyv⟩, hF2.weak (.cons _ (.refl _)) (allH (by repeat (first | exact memH | apply memT)) (allH (by repeat (first | exact memH | apply memT)) (allH (by repeat (first | exact memH | apply memT)) (allH (by repeat (first | exact memH | apply memT)) (allH (by repeat (first | exact memH | apply memT)) (allH (by repeat (first | exact memH | apply memT)) (allH (by repeat (first | exact memH | apply memT)) (allH (by repeat (first | exact memH | apply memT)) (allH (by repeat (first | exact memH | apply memT)) (allH (by repeat (first | exact memH | apply memT)) (allH (by repeat (first | exact memH | apply memT)) (allH (by repeat (first | exact memH | apply memT)) allN))))))))))))⟩ (by omega)
      · have hbl : b = gl2.length := Nat.le_antisymm hb hbn
        rw [List.take_of_length_le hbn] at hs
        repeat' (first | (refine TL.isOp ?_; first | (refine TL.isG ?_; first | refine TL.grun rfl rfl rfl ?_ | refine TL.gskip rfl rfl rfl rfl ?_ | refine TL.gskipU rfl rfl rfl ?_) | (refine TL.isBin ?_; refine TL.cmpG rfl rfl rfl rfl (fun hc => ?_) (fun hc => ?_) <;> (try (first | (exfalso; omega) | exact absurd rfl hc))) | (apply TL.ev; (case hd => rfl); (case h => (first | exact ev_simple rfl | (apply Ev.isBin; first | exact ev_arN rfl rfl rfl (by omega) | exact ev_arI rfl rfl rfl (by omega) | exact ev_eqlB (r := true) rfl rfl rfl | exact ev_eqlB (r := false) rfl rfl rfl | exact ev_neqB (r := true) rfl rfl rfl | exact ev_neqB (r := false) rfl rfl rfl) | (apply Ev.isLoad; first | exact ev_loadFr hF rfl (by refine ⟨?_, ?_⟩; (focus (repeat (first | exact InV.head | apply InV.tail))); rfl) | exact ev_loadAFr hF rfl (by refine ⟨?_, ?_⟩; (focus (repeat (first | exact InV.head | apply InV.tail))); rfl)) | exact ev_len rfl | exact ev_fieldAddr rfl | exact ev_field rfl rfl | exact ev_fieldA rfl rfl | exact ev_buildX rfl rfl | exact ev_makeFunc rfl | exact ev_nilCheck rfl | exact ev_neg rfl (by omega) | exact ev_cap rfl))) | (refine TL.storeAFr hF rfl rfl rfl rfl (by refine ⟨?_, ?_⟩; (focus (repeat (first | apply SetV.head | apply SetV.tail))); rfl) rfl ?_; clear hF; intro ws hF) | (refine TL.storeFr hF rfl rfl rfl rfl (by refine ⟨?_, ?_⟩; (focus (repeat (first | apply SetV.head | apply SetV.tail))); rfl) rfl ?_; clear hF; intro ws hF) | (refine TL.boxAFr hF rfl rfl ?_; clear hF; intro wb bb hF) | (refine TL.boxFr hF rfl rfl ?_; clear hF; intro wb bb hF) | (refine TL.allocFr hF rfl rfl ?_; clear hF; intro wa ba hF)) | (refine T.is ?_; first | refine T.seq ?_ | refine T.region ?_ | refine T.block ?_ | refine T.cond_t rfl ?_ | refine T.cond_f rfl ?_ | refine T.exit ?_ | refine T.ret ?_ | refine T.skip ?_ | refine T.regionQ mixed (by kernel_rfl) ?_) | (refine G.is ?_; first | refine G.next ?_ | refine G.blockN ?_ | refine G.blockE ?_ | refine G.blockE' rfl ?_ | refine G.blockR ?_ | refine G.thenE ?_ | refine G.thenR ?_ | refine G.only ?_) | refine TL.nil ?_ | (refine TL.nilFr hF ?_; clear hF; intro wq hF))
        have hF2 := hF.svMore (s := s) (N' := 32769 + (a + 1) * 4097) (by repeat (first | exact memH | apply memT)) (by omega)
        exact G.again (a + 1, s) (by repeat (first | exact Sub.nil _ | refine Sub.cons rfl ?_ | refine Sub.cons' rfl (int_congr (by omega)) ?_)) ⟨⟨han, mul_row hq1 hs hcs⟩, hF2.weak (List.nil_sublist _) (allH (by repeat (first | exact memH | apply memT)) (allH (by repeat (first | exact memH | apply memT)) (allH (by repeat (first | exact memH | apply memT)) (allH (by repeat (first | exact memH | apply memT)) (allH (by repeat (first | exact memH | apply memT)) (allH (by repeat (first | exact memH | apply memT)) (allH (by repeat (first | exact memH | apply memT)) (allH (by repeat (first | exact memH | apply memT)) (allH (by repeat (first | exact memH | apply memT)) (allH (by repeat (first | exact memH | apply memT)) (allH (by repeat (first | exact memH | apply memT)) (allH (by repeat (first | exact memH | apply memT)) allN))))))))))))⟩ (by omega)
    · have hal : a = gl.length := Nat.le_antisymm ha han
      rw [List.take_of_length_le han] at hs
      have hsn : (s.map (·.1)).Nodup := by obtain ⟨es, x, _, hq⟩ := hF.mp (show dpMp intk ivA ms s ∈ _ from (by repeat (first | exact memH | apply memT))); exact hq.keys
      repeat' (first | (refine TL.isOp ?_; first | (refine TL.isG ?_; first | refine TL.grun rfl rfl rfl ?_ | refine TL.gskip rfl rfl rfl rfl ?_ | refine TL.gskipU rfl rfl rfl ?_) | (refine TL.isBin ?_; refine TL.cmpG rfl rfl rfl rfl (fun hc => ?_) (fun hc => ?_) <;> (try (first | (exfalso; omega) | exact absurd rfl hc))) | (apply TL.ev; (case hd => rfl); (case h => (first | exact ev_simple rfl | (apply Ev.isBin; first | exact ev_arN rfl rfl rfl (by omega) | exact ev_arI rfl rfl rfl (by omega) | exact ev_eqlB (r := true) rfl rfl rfl | exact ev_eqlB (r := false) rfl rfl rfl | exact ev_neqB (r := true) rfl rfl rfl | exact ev_neqB (r := false) rfl rfl rfl) | (apply Ev.isLoad; first | exact ev_loadFr hF rfl (by refine ⟨?_, ?_⟩; (focus (repeat (first | exact InV.head | apply InV.tail))); rfl) | exact ev_loadAFr hF rfl (by refine ⟨?_, ?_⟩; (focus (repeat (first | exact InV.head | apply InV.tail))); rfl)) | exact ev_len rfl | exact ev_fieldAddr rfl | exact ev_field rfl rfl | exact ev_fieldA rfl rfl | exact ev_buildX rfl rfl | exact ev_makeFunc rfl | exact ev_nilCheck rfl | exact ev_neg rfl (by omega) | exact ev_cap rfl))) | (refine TL.storeAFr hF rfl rfl rfl rfl (by refine ⟨?_, ?_⟩; (focus (repeat (first | apply SetV.head | apply SetV.tail))); rfl) rfl ?_; clear hF; intro ws hF) | (refine TL.storeFr hF rfl rfl rfl rfl (by refine ⟨?_, ?_⟩; (focus (repeat (first | apply SetV.head | apply SetV.tail))); rfl) rfl ?_; clear hF; intro ws hF) | (refine TL.rangeFr (f := intk) (g := ivA) (l := s) hF rfl (by repeat (first | exact memH | apply memT)) rfl ?_; have hr2 := hF.exs.size; have hmo_r2 := hF.mp_lt (m := mo) (l := lo) (by repeat (first | exact memH | apply memT)); have hmr_r2 := hF.mp_lt (m := mr) (l := rowsM R2) (by repeat (first | exact memH | apply memT)); have hml_r2 := hF.mp_lt (m := ml) (l := rowsM R1) (by repeat (first | exact memH | apply memT)); have hrr_r2 := hF.it_lt (show dpIt intk slc3 rr ml (rowsM R1) (done ++ [p]) todo' ∈ _ from (by repeat (first | exact memH | apply memT))); clear hF; intro w84 r2 er hF; rw [← er] at hmo_r2 hmr_r2 hml_r2 hrr_r2; replace hr2 := Nat.le_trans hr2 (Nat.le_of_eq er.symm); clear er) | (refine TL.boxAFr hF rfl rfl ?_; clear hF; intro wb bb hF) | (refine TL.boxFr hF rfl rfl ?_; clear hF; intro wb bb hF) | (refine TL.allocFr hF rfl rfl ?_; clear hF; intro wa ba hF)) | (refine T.is ?_; first | refine T.seq ?_ | refine T.region ?_ | refine T.block ?_ | refine T.cond_t rfl ?_ | refine T.cond_f rfl ?_ | refine T.exit ?_ | refine T.ret ?_ | refine T.skip ?_ | refine T.regionQ mixed (by kernel_rfl) ?_) | (refine G.is ?_; first | refine G.next ?_ | refine G.blockN ?_ | refine G.blockE ?_ | refine G.blockE' rfl ?_ | refine G.blockR ?_ | refine G.thenE ?_ | refine G.thenR ?_ | refine G.only ?_) | refine TL.nil ?_ | (refine TL.nilFr hF ?_; clear hF; intro wq hF))
      refine T.loop (α := SL × SL × GL) (fun x => [(6, .pointer (some ⟨go, 0, none⟩)), (7, .map (some mr)), (8, .int .i64 p.1), (47, .pointer (some ⟨rr, 0, none⟩)), (84, .pointer (some ⟨r2, 0, none⟩))])
        (fun x w' => s.Perm (x.1 ++ x.2.1) ∧ (NZ x.2.2 ∧ ∀ X Y, zv x.2.2 (X, Y) = if X = p.1 then sz x.1 Y else zv lo (X, Y)) ∧ Fr w w' [] [dpIt intk ivA r2 ms s x.1 x.2.1, dpMp spot ivA mo x.2.2, dpCb go 96 (grc r c mo), dpGv x.2.2, dpIt intk slc3 rr ml (rowsM R1) (done ++ [p]) todo', dpMp intk slc3 mr (rowsM R2), dpRW R2, dpGv ls2, dpMp intk slc3 ml (rowsM R1), dpRW R1, dpGv ls1, dpSv s (32769 + a * 4097)]) (fun x => x.2.1.length) ([], s, lo) (by repeat (first | exact Sub.nil _ | refine Sub.cons rfl ?_ | refine Sub.cons' rfl (int_congr (by omega)) ?_)) ⟨List.Perm.refl _, ⟨hnz, fun X Y => by
          dsimp only
          split
          · rename_i hx
            rw [hzv, if_neg (by rw [hx]; exact hpd)]; rfl
          · rfl⟩, hF.weak (.refl _) (allH (by repeat (first | exact memH | apply memT)) (allH (by repeat (first | exact memH | apply memT)) (allH (by repeat (first | exact memH | apply memT)) (allH (by repeat (first | exact memH | apply memT)) (allH (by repeat (first | exact memH | apply memT)) (allH (by repeat (first | exact memH | apply memT)) (allH (by repeat (first | exact memH | apply memT)) (allH (by repeat (first | exact memH | apply memT)) (allH (by repeat (first | exact memH | apply memT)) (allH (by repeat (first | exact memH | apply memT)) (allH (by repeat (first | exact memH | apply memT)) (allH (by repeat (first | exact memH | apply memT)) allN))))))))))))⟩ ?_
      clear hF
      rintro ⟨d4, t4, lo4⟩ w4 ⟨hp4, ⟨hnz4, hzv4⟩, hF⟩
      dsimp only at hp4 hnz4 hzv4 hF ⊢
      have hno := hF.mp_nodup (m := mo) (l := lo4) (by repeat (first | exact memH | apply memT))
      repeat' (first | (refine TL.isOp ?_; first | (refine TL.isG ?_; first | refine TL.grun rfl rfl rfl ?_ | refine TL.gskip rfl rfl rfl rfl ?_ | refine TL.gskipU rfl rfl rfl ?_) | (refine TL.isCall ?_; refine TL.call rfl rfl ?_; first | (by_cases hbig : bigZ (ival p4.2); refine (long_t _ p4.2 (hF.sv (s := s) (by repeat (first | exact memH | apply memT)) p4 (pm_mem hp4 ht4)).1.g (Nat.le_trans (hF.sv (s := s) (by repeat (first | exact memH | apply memT)) p4 (pm_mem hp4 ht4)).2 (by omega)) hbig).mono ?_; rintro _ wy ⟨rfl, hE⟩; replace hF := hF.exts hE; clear hE; refine Back.mk ?_; rotate_left 1; refine (long_f _ p4.2 (hF.sv (s := s) (by repeat (first | exact memH | apply memT)) p4 (pm_mem hp4 ht4)).1.g (Nat.le_trans (hF.sv (s := s) (by repeat (first | exact memH | apply memT)) p4 (pm_mem hp4 ht4)).2 (by omega)) hbig).mono ?_; rintro _ wy ⟨rfl, hE⟩; replace hF := hF.exts hE; clear hE; refine Back.mk ?_) | (refine (gput_ok _ go mo r c lo4 (p.1, p4.1) p4.2 (ival p4.2) (hF.gr (by repeat (first | exact memH | apply memT)) (by repeat (first | exact memH | apply memT)) (by repeat (first | exact memH | apply memT))) (hF.sv (s := s) (by repeat (first | exact memH | apply memT)) p4 (pm_mem hp4 ht4)).1 (few_of (hF.sv (s := s) (by repeat (first | exact memH | apply memT)) p4 (pm_mem hp4 ht4)).1 hbig)).mono ?_; rintro _ wy ⟨rfl, hE, hGp⟩; replace hF := Fr.addGv (Fr.callMp (Fr.swapD hF) hE (.inl hmo) (nfC (nf_it (Nat.ne_of_gt hmo_r2) (Nat.ne_of_gt hmo_ms)) (nfC (nf_cb hgom) (nfC nf_gv (nfC (nf_it hmo_rr.symm hmo_ml.symm) (nfC (nf_mp hmo_mr.symm) (nfC (hF.rw_mp (by repeat (first | exact memH | apply memT)) (show dpMp spot ivA mo lo4 ∈ _ from (by repeat (first | exact memH | apply memT)))) (nfC nf_gv (nfC (nf_mp hmo_ml.symm) (nfC (hF.rw_mp (by repeat (first | exact memH | apply memT)) (show dpMp spot ivA mo lo4 ∈ _ from (by repeat (first | exact memH | apply memT)))) (nfC nf_gv (nfC nf_sv nfN))))))))))) hGp.mp) hGp.vals; clear hE hGp; refine Back.mk ?_)) | (refine TL.isBin ?_; refine TL.cmpG rfl rfl rfl rfl (fun hc => ?_) (fun hc => ?_) <;> (try (first | (exfalso; omega) | exact absurd rfl hc))) | (apply TL.ev; (case hd => rfl); (case h => (first | exact ev_simple rfl | (apply Ev.isBin; first | exact ev_arN rfl rfl rfl (by omega) | exact ev_arI rfl rfl rfl (by omega) | exact ev_eqlB (r := true) rfl rfl rfl | exact ev_eqlB (r := false) rfl rfl rfl | exact ev_neqB (r := true) rfl rfl rfl | exact ev_neqB (r := false) rfl rfl rfl) | (apply Ev.isLoad; first | exact ev_loadFr hF rfl (by refine ⟨?_, ?_⟩; (focus (repeat (first | exact InV.head | apply InV.tail))); rfl) | exact ev_loadAFr hF rfl (by refine ⟨?_, ?_⟩; (focus (repeat (first | exact InV.head | apply InV.tail))); rfl) | exact ev_loadCb hF rfl (by repeat (first | exact memH | apply memT)) rfl) | exact ev_len rfl | exact ev_fieldAddr rfl | exact ev_field rfl rfl | exact ev_fieldA rfl rfl | exact ev_buildX rfl rfl | exact ev_makeFunc rfl | exact ev_nilCheck rfl | exact ev_neg rfl (by omega) | exact ev_cap rfl | exact ev_entryJ hF (by repeat (first | exact memH | apply memT)) rfl | exact ev_mlen hF (l := lo4) rfl (by repeat (first | exact memH | apply memT))))) | (refine TL.storeAFr hF rfl rfl rfl rfl (by refine ⟨?_, ?_⟩; (focus (repeat (first | apply SetV.head | apply SetV.tail))); rfl) rfl ?_; clear hF; intro ws hF) | (refine TL.storeFr hF rfl rfl rfl rfl (by refine ⟨?_, ?_⟩; (focus (repeat (first | apply SetV.head | apply SetV.tail))); rfl) rfl ?_; clear hF; intro ws hF) | (refine TL.nextFr hF (.inl hr2) (nfC (nf_mp (Nat.ne_of_lt hmo_r2)) (nfC (nf_cb (hF.it_cb (show dpIt intk ivA r2 ms s d4 t4 ∈ _ from (by repeat (first | exact memH | apply memT))) (by repeat (first | exact memH | apply memT)))) (nfC nf_gv (nfC (nf_it (Nat.ne_of_lt hrr_r2) (Nat.ne_of_lt hml_r2)) (nfC (nf_mp (Nat.ne_of_lt hmr_r2)) (nfC (hF.rw_it (by repeat (first | exact memH | apply memT)) (show dpIt intk ivA r2 ms s d4 t4 ∈ _ from (by repeat (first | exact memH | apply memT)))) (nfC nf_gv (nfC (nf_mp (Nat.ne_of_lt hml_r2)) (nfC (hF.rw_it (by repeat (first | exact memH | apply memT)) (show dpIt intk ivA r2 ms s d4 t4 ∈ _ from (by repeat (first | exact memH | apply memT)))) (nfC nf_gv (nfC nf_sv nfN))))))))))) rfl rfl (fun h0 wn hFn => ?_) (fun p4 t4' wn ht4 hFn => ?_) <;> clear hF <;> have hF := hFn <;> clear hFn) | (refine TL.allocFr hF (d := 16) rfl rfl ?_; clear hF; intro w16 b16 hF) | (refine TL.boxAFr hF rfl rfl ?_; clear hF; intro wb bb hF) | (refine TL.boxFr hF rfl rfl ?_; clear hF; intro wb bb hF) | (refine TL.allocFr hF rfl rfl ?_; clear hF; intro wa ba hF)) | (refine T.is ?_; first | refine T.seq ?_ | refine T.region ?_ | refine T.block ?_ | refine T.cond_t rfl ?_ | refine T.cond_f rfl ?_ | refine T.exit ?_ | refine T.ret ?_ | refine T.skip ?_ | refine T.regionQ mixed (by kernel_rfl) ?_) | (refine G.is ?_; first | refine G.next ?_ | refine G.blockN ?_ | refine G.blockE ?_ | refine G.blockE' rfl ?_ | refine G.blockR ?_ | refine G.thenE ?_ | refine G.thenR ?_ | refine G.only ?_) | refine TL.nil ?_ | (refine TL.nilFr hF ?_; clear hF; intro wq hF))
      · subst h0
        rw [List.append_nil] at hp4
        have hfin := fun X Y => mul_fin hsn hp4 hs hgi (hzv4 X Y)
        refine G.ret2 rfl rfl rfl (.inr ⟨.inr ⟨lo4, hnz4, hno, fun pp hpp => ?_, by omega⟩, rfl, hF.ext⟩)
        have e1 : zv lo4 pp.1 = ival pp.2 := zv_some (lkp_of_mem (x := pp.1) (v := pp.2) hno hpp)
        have e2 := hfin pp.1.1 pp.1.2
        rw [show ((pp.1.1, pp.1.2) : Int × Int) = pp.1 from rfl, e1] at e2
        rw [e2, ← hZ]
        split
        · rfl
        · rename_i hx
          rw [if_neg hx] at e2
          have e3 := hzv pp.1.1 pp.1.2
          rw [show ((pp.1.1, pp.1.2) : Int × Int) = pp.1 from rfl] at e3
          rw [e3]
          split
          · rfl
          · rename_i hd
            rw [if_neg hd] at e3
            exact absurd (e2.trans e3) (hnz4 pp hpp)
      · subst h0
        rw [List.append_nil] at hp4
        have hfin := fun X Y => mul_fin hsn hp4 hs hgi (hzv4 X Y)
        exact G.again (done ++ [p], todo', lo4) (by repeat (first | exact Sub.nil _ | refine Sub.cons rfl ?_ | refine Sub.cons' rfl (int_congr (by omega)) ?_)) ⟨step_perm hp ht, ⟨hnz4, fun X Y => by
          dsimp only
          rw [hfin, List.map_append]
          by_cases hx : X = p.1
          · rw [if_pos hx, if_pos (by simp [hx])]
          · rw [if_neg hx, hzv]
            have : X ∈ done.map (·.1) ++ [p].map (·.1) ↔ X ∈ done.map (·.1) := by simp [hx]
            simp only [this], by dsimp only; omega⟩, hF.weak (.refl _) (allH (by repeat (first | exact memH | apply memT)) (allH (by repeat (first | exact memH | apply memT)) (allH (by repeat (first | exact memH | apply memT)) (allH (by repeat (first | exact memH | apply memT)) (allH (by repeat (first | exact memH | apply memT)) (allH (by repeat (first | exact memH | apply memT)) (allH (by repeat (first | exact memH | apply memT)) (allH (by repeat (first | exact memH | apply memT)) (allH (by repeat (first | exact memH | apply memT)) (allH (by repeat (first | exact memH | apply memT)) allN))))))))))⟩ (step_mu ht)
      · have hnew := perm_new hsn (step_perm hp4 ht4)
        exact G.again (d4 ++ [p4], t4', putL lo4 (p.1, p4.1) p4.2) (by repeat (first | exact Sub.nil _ | refine Sub.cons rfl ?_ | refine Sub.cons' rfl (int_congr (by omega)) ?_)) ⟨step_perm hp4 ht4, ⟨hnz4.put _ _, fun X Y => by
          dsimp only
          rw [zv_putL hno, hzv4, sz_snoc hnew]
          by_cases hx : X = p.1
          · subst hx
            by_cases hy : p4.1 = Y
            · subst hy; simp
            · simp [hy]
          · have : ¬ p.1 = X := fun e => hx e.symm
            simp [hx, this]⟩, hF.weak (List.nil_sublist _) (allH (by repeat (first | exact memH | apply memT)) (allH (by repeat (first | exact memH | apply memT)) (allH (by repeat (first | exact memH | apply memT)) (allH (by repeat (first | exact memH | apply memT)) (allH (by repeat (first | exact memH | apply memT)) (allH (by repeat (first | exact memH | apply memT)) (allH (by repeat (first | exact memH | apply memT)) (allH (by repeat (first | exact memH | apply memT)) (allH (by repeat (first | exact memH | apply memT)) (allH (by repeat (first | exact memH | apply memT)) (allH (by repeat (first | exact memH | apply memT)) (allH (by repeat (first | exact memH | apply memT)) allN))))))))))))⟩ (step_mu ht4)
      · refine G.ret2 rfl rfl rfl (.inr ⟨.inl ⟨(p.1, p4.1), ?_⟩, rfl, hF.ext⟩)
        rw [← hZ, mulZ_rs, ← hgi, ← hs, sz_some (lkp_of_mem (x := p4.1) (v := p4.2) hsn (pm_mem hp4 ht4))]
        exact hbig
end Go.Proofs.Ytlpheckjogphmaa

set_option linter.unusedSectionVars false
namespace Go.Eng
open Go Go.Proofs Go.NatM Go.RowKit Go.Proofs.Ytlpheckjogphmaa
theorem nodup_len_le {α : Type} [DecidableEq α] : ∀ {a b : List α}, a.Nodup → (∀ x ∈ a, x ∈ b) → a.length ≤ b.length
  | [], b, _, _ => Nat.zero_le _
  | x :: a, b, hn, h => by
    simp only [List.nodup_cons] at hn
    have hx := h x (List.mem_cons_self ..)
    have ih := nodup_len_le (a := a) (b := b.erase x) hn.2 fun y hy => (List.mem_erase_of_ne (fun e => hn.1 (by rw [← e]; exact hy))).2 (h y (List.mem_cons_of_mem _ hy))
    rw [List.length_erase_of_mem hx] at ih
    have := List.length_pos_of_mem hx
    simp only [List.length_cons]
    omega
theorem NZ.lenI {l l' : GL} (h : NZ l) (h' : NZ l') (hn : (l.map (·.1)).Nodup) (hn' : (l'.map (·.1)).Nodup) (e : ∀ k, zv l k ≠ 0 ↔ zv l' k ≠ 0) : l.length = l'.length := by
  have hp : (l.map (·.1)).Perm (l'.map (·.1)) := (List.perm_ext_iff_of_nodup hn hn').2 fun k => by rw [h.keys, h'.keys, e]
  simpa using hp.length_eq
theorem NZ.none {l : GL} (h : NZ l) (hn : (l.map (·.1)).Nodup) (e : ∀ k, zv l k = 0) : l = [] := by
  cases l with
  | nil => rfl
  | cons p l => exact absurd (e p.1) ((h.keys p.1).1 (by simp))
/-- places that a list must hold -/
theorem NZ.atLeast {l : GL} (h : NZ l) {ks : List (Int × Int)} (hk : ks.Nodup) (e : ∀ k ∈ ks, zv l k ≠ 0) : ks.length ≤ l.length := by
  have := nodup_len_le hk fun k hm => (h.keys k).2 (e k hm)
  simpa using this
end Go.Eng
namespace Go.Proofs.Ytlpheckjogphmaa
open Go Go.Eng Go.Proofs Go.NatM Go.RowKit
theorem Gr.nodup {H : Array Obj} {g m r c : Nat} {l : GL} (h : Gr H g m r c l) : (l.map (·.1)).Nodup := by obtain ⟨es, k, _, hr⟩ := h.mp; exact hr.keys
/-- Set's answers, by numbers -/
def SetBad (l : GL) (p : Int × Int) (z : Int) : Prop := bigZ z ∨ (zv l p = 0 ∧ z ≠ 0 ∧ 4096 ≤ l.length)
def RetSZ (w : World) (g m r c : Nat) (l : GL) (p : Int × Int) (z : Int) (e : Ending) (w' : World) : Prop := ∃ (er : Int) (l2 : GL), RetW w g m r c l2 (.int .i64 er) e w' ∧ ((er = 5 ∧ l2 = l ∧ SetBad l p z) ∨ (er = 0 ∧ ¬ SetBad l p z ∧ NZ l2 ∧ (∀ k, zv l2 k = if p = k then z else zv l k) ∧ (l2.length : Int) = (l.length : Int) - (if zv l p ≠ 0 then 1 else 0) + (if z ≠ 0 then 1 else 0)))
theorem setBad_iff {l : GL} (hz : NZ l) {p : Int × Int} {x : IV} : GLarge l p x ↔ SetBad l p (ival x) := by
  unfold GLarge SetBad
  rw [big_iff]
  have h := hz.iff p
  cases hq : (lkp l p).isSome with
  | false =>
    rw [hq] at h
    have : zv l p = 0 := Classical.byContradiction fun hn => by have := h.2 hn; cases this
    simp [this]
  | true =>
    rw [hq] at h
    have : zv l p ≠ 0 := h.1 rfl
    simp [this]
theorem gsetZ_ok (w : World) (g m r c : Nat) (l : GL) (p1 p2 : Int) (x : IV) (hG : Gr w.heap g m r c l) (hz : NZ l) (hp : (0 ≤ p1 ∧ p1 < (r : Int)) ∧ (0 ≤ p2 ∧ p2 < (c : Int))) (hx : GI w.heap x) (hxn : x.m.n ≤ 1099511627776) :
    Cl Try.prog 16 #[.pointer (some ⟨g, 0, none⟩), .int .i64 p1, .int .i64 p2, ivA x] w (RetSZ w g m r c l (p1, p2) (ival x)) := by
  by_cases hb : GLarge l (p1, p2) x
  · refine (gset_large w g m r c l p1 p2 x hG hp hx hxn hb).mono ?_
    rintro e w' ⟨rfl, hE⟩
    exact ⟨5, l, ⟨rfl, Exs.of hE, hG.ext hE⟩, .inl ⟨rfl, rfl, (setBad_iff hz).1 hb⟩⟩
  · have hnb := fun h => hb ((setBad_iff hz).2 h)
    have hn := Gr.nodup hG
    have key : ∀ (y : IV), ival y = ival x → NZ (putL l (p1, p2) y) ∧ (∀ k, zv (putL l (p1, p2) y) k = if (p1, p2) = k then ival x else zv l k) ∧ ((putL l (p1, p2) y).length : Int) = (l.length : Int) - (if zv l (p1, p2) ≠ 0 then 1 else 0) + (if ival x ≠ 0 then 1 else 0) := fun y e => by
      refine ⟨hz.put _ _, fun k => by rw [zv_putL hn, e], ?_⟩
      rw [putL_len, e]
      congr 2
      have h := hz.iff (p1, p2)
      by_cases h0 : zv l (p1, p2) = 0
      · have : (lkp l (p1, p2)).isSome = false := by
          cases hq : (lkp l (p1, p2)).isSome with
          | false => rfl
          | true => exact absurd h0 (h.1 hq)
        simp [this, h0]
      · have : (lkp l (p1, p2)).isSome = true := h.2 h0
        simp [this, h0]
    by_cases h0 : ival x = 0
    · refine (gset_zero w g m r c l p1 p2 x hG hp hx hxn h0).mono ?_
      intro e w' h
      have e1 : del l (p1, p2) = putL l (p1, p2) x := by unfold putL; rw [if_pos h0]
      rw [e1] at h
      exact ⟨0, _, h, .inr ⟨rfl, hnb, key x rfl⟩⟩
    · refine (gset_put w g m r c l p1 p2 x hG hp hx hxn hb h0).mono ?_
      rintro e w' ⟨y, hy, h⟩
      have e1 : ups l (p1, p2) y = putL l (p1, p2) y := by unfold putL; rw [if_neg (by rw [hy.val]; exact h0)]
      rw [e1] at h
      exact ⟨0, _, h, .inr ⟨rfl, hnb, key y hy.val⟩⟩
theorem gdense_wide (w : World) (g m r c : Nat) (l : GL) (hG : Gr w.heap g m r c l) (h : 64 < r ∨ 64 < c) : Cl Try.prog 34 #[.pointer (some ⟨g, 0, none⟩)] w (fun e w' => e = .returned (.tuple #[.agg #[.int .i64 0, .int .i64 0, .slice none 0 0], .int .i64 5]) ∧ Ext w w') := by
  have hF := Gr.fr hG fun _ => False
  clear hG
  refine enter Try.func34 rfl rfl rfl ?_
  by_cases hr : 64 < r
  · repeat' (first | (refine TL.isOp ?_; first | (refine TL.isG ?_; first | refine TL.grun rfl rfl rfl ?_ | refine TL.gskip rfl rfl rfl rfl ?_ | refine TL.gskipU rfl rfl rfl ?_) | (refine TL.isBin ?_; refine TL.cmpG rfl rfl rfl rfl (fun hc => ?_) (fun hc => ?_) <;> (try (first | (exfalso; omega) | exact absurd rfl hc))) | (apply TL.ev; (case hd => rfl); (case h => (first | exact ev_simple rfl | (apply Ev.isBin; first | exact ev_arN rfl rfl rfl (by omega) | exact ev_arI rfl rfl rfl (by omega) | exact ev_eqlB (r := true) rfl rfl rfl | exact ev_eqlB (r := false) rfl rfl rfl | exact ev_neqB (r := true) rfl rfl rfl | exact ev_neqB (r := false) rfl rfl rfl | exact ev_eqlP rfl rfl rfl) | (apply Ev.isLoad; first | exact ev_loadFr hF rfl (by refine ⟨?_, ?_⟩; (focus (repeat (first | exact InV.head | apply InV.tail))); rfl) | exact ev_loadAFr hF rfl (by refine ⟨?_, ?_⟩; (focus (repeat (first | exact InV.head | apply InV.tail))); rfl) | exact ev_loadCb hF rfl (by repeat (first | exact memH | apply memT)) rfl) | exact ev_len rfl | exact ev_fieldAddr rfl | exact ev_field rfl rfl | exact ev_fieldA rfl rfl | exact ev_buildX rfl rfl | exact ev_makeFunc rfl | exact ev_nilCheck rfl | exact ev_neg rfl (by omega) | exact ev_cap rfl))) | (refine TL.storeAFr hF rfl rfl rfl rfl (by refine ⟨?_, ?_⟩; (focus (repeat (first | apply SetV.head | apply SetV.tail))); rfl) rfl ?_; clear hF; intro ws hF) | (refine TL.storeFr hF rfl rfl rfl rfl (by refine ⟨?_, ?_⟩; (focus (repeat (first | apply SetV.head | apply SetV.tail))); rfl) rfl ?_; clear hF; intro ws hF) | (refine TL.allocFr hF (d := 2) rfl rfl ?_; clear hF; intro w2 b2 hF) | (refine TL.boxAFr hF rfl rfl ?_; clear hF; intro wb bb hF) | (refine TL.boxFr hF rfl rfl ?_; clear hF; intro wb bb hF) | (refine TL.allocFr hF rfl rfl ?_; clear hF; intro wa ba hF)) | (refine T.is ?_; first | refine T.seq ?_ | refine T.region ?_ | refine T.block ?_ | refine T.cond_t rfl ?_ | refine T.cond_f rfl ?_ | refine T.exit ?_ | refine T.ret ?_ | refine T.skip ?_ | refine T.regionQ mixed (by kernel_rfl) ?_) | (refine G.is ?_; first | refine G.next ?_ | refine G.blockN ?_ | refine G.blockE ?_ | refine G.blockE' rfl ?_ | refine G.blockR ?_ | refine G.thenE ?_ | refine G.thenR ?_ | refine G.only ?_) | refine TL.nil ?_ | (refine TL.nilFr hF ?_; clear hF; intro wq hF))
    all_goals exact G.retC2 rfl rfl rfl (held_agg (hF.var (by repeat (first | exact InV.head | apply InV.tail))) rfl) ⟨rfl, hF.ext⟩
  · have hc := h.resolve_left hr
    repeat' (first | (refine TL.isOp ?_; first | (refine TL.isG ?_; first | refine TL.grun rfl rfl rfl ?_ | refine TL.gskip rfl rfl rfl rfl ?_ | refine TL.gskipU rfl rfl rfl ?_) | (refine TL.isBin ?_; refine TL.cmpG rfl rfl rfl rfl (fun hc => ?_) (fun hc => ?_) <;> (try (first | (exfalso; omega) | exact absurd rfl hc))) | (apply TL.ev; (case hd => rfl); (case h => (first | exact ev_simple rfl | (apply Ev.isBin; first | exact ev_arN rfl rfl rfl (by omega) | exact ev_arI rfl rfl rfl (by omega) | exact ev_eqlB (r := true) rfl rfl rfl | exact ev_eqlB (r := false) rfl rfl rfl | exact ev_neqB (r := true) rfl rfl rfl | exact ev_neqB (r := false) rfl rfl rfl | exact ev_eqlP rfl rfl rfl) | (apply Ev.isLoad; first | exact ev_loadFr hF rfl (by refine ⟨?_, ?_⟩; (focus (repeat (first | exact InV.head | apply InV.tail))); rfl) | exact ev_loadAFr hF rfl (by refine ⟨?_, ?_⟩; (focus (repeat (first | exact InV.head | apply InV.tail))); rfl) | exact ev_loadCb hF rfl (by repeat (first | exact memH | apply memT)) rfl) | exact ev_len rfl | exact ev_fieldAddr rfl | exact ev_field rfl rfl | exact ev_fieldA rfl rfl | exact ev_buildX rfl rfl | exact ev_makeFunc rfl | exact ev_nilCheck rfl | exact ev_neg rfl (by omega) | exact ev_cap rfl))) | (refine TL.storeAFr hF rfl rfl rfl rfl (by refine ⟨?_, ?_⟩; (focus (repeat (first | apply SetV.head | apply SetV.tail))); rfl) rfl ?_; clear hF; intro ws hF) | (refine TL.storeFr hF rfl rfl rfl rfl (by refine ⟨?_, ?_⟩; (focus (repeat (first | apply SetV.head | apply SetV.tail))); rfl) rfl ?_; clear hF; intro ws hF) | (refine TL.allocFr hF (d := 2) rfl rfl ?_; clear hF; intro w2 b2 hF) | (refine TL.boxAFr hF rfl rfl ?_; clear hF; intro wb bb hF) | (refine TL.boxFr hF rfl rfl ?_; clear hF; intro wb bb hF) | (refine TL.allocFr hF rfl rfl ?_; clear hF; intro wa ba hF)) | (refine T.is ?_; first | refine T.seq ?_ | refine T.region ?_ | refine T.block ?_ | refine T.cond_t rfl ?_ | refine T.cond_f rfl ?_ | refine T.exit ?_ | refine T.ret ?_ | refine T.skip ?_ | refine T.regionQ mixed (by kernel_rfl) ?_) | (refine G.is ?_; first | refine G.next ?_ | refine G.blockN ?_ | refine G.blockE ?_ | refine G.blockE' rfl ?_ | refine G.blockR ?_ | refine G.thenE ?_ | refine G.thenR ?_ | refine G.only ?_) | refine TL.nil ?_ | (refine TL.nilFr hF ?_; clear hF; intro wq hF))
    all_goals exact G.retC2 rfl rfl rfl (held_agg (hF.var (by repeat (first | exact InV.head | apply InV.tail))) rfl) ⟨rfl, hF.ext⟩
end Go.Proofs.Ytlpheckjogphmaa

set_option linter.unusedSectionVars false
namespace Go.Eng
open Go Go.Proofs Go.NatM Go.RowKit Go.Proofs.Ytlpheckjogphmaa
section
variable {P : Program} {σ : Go.Eng.Store} {H : Array Obj} {d : Option Tmp} {t : TypeId} {pos : String} {af : Array Edge} {gd : Option (Nat × Bool)}
theorem ev_convW {x : Operand} {ts td : TypeId} {ks kd k0 : IntKind} [hs : UInt P ts ks] [hd : UInt P td kd] {n m : Int} (h : Go.Eng.look σ x = some (.int k0 n)) (hn : kd.wrap n = m) :
    Ev P σ H ⟨d, .convert ts td x, t, pos, af, gd⟩ (.int kd m) := by
  subst hn
  unfold Ev
  intro ρ w hρ _
  simp [execOp, hρ x _ h, convert, run_underlying hs.out, run_underlying hd.out, Conv.intToInt]
theorem ev_negM {x : Operand} {ty : TypeId} (hx : Go.Eng.look σ x = some (.int .u64 18446744073709551615)) : Ev P σ H ⟨d, .unOp .neg ty x, t, pos, af, gd⟩ (.int .u64 1) := by
  unfold Ev
  intro ρ w hρ _
  have e1 : IntKind.u64.wrap (-18446744073709551615) = 1 := by decide
  simp [execOp, hρ x _ hx, Op.unary, Op.intArith, e1]
end
theorem bl_two {n K : Nat} (h : bl n < K) : bl (n + n) ≤ K := by
  have h1 : n < 2 ^ bl n := bl_le.1 (Nat.le_refl _)
  obtain ⟨q, rfl⟩ : ∃ q, K = q + 1 := ⟨K - 1, by omega⟩
  refine bl_le.2 ?_
  have h2 : (2 : Nat) ^ bl n ≤ 2 ^ q := Nat.pow_le_pow_right (by omega) (by omega)
  rw [Nat.pow_succ]
  omega
theorem not_big2 {z : Int} (h : bl z.natAbs < 1048576) : ¬ bigZ (z + z) := by
  unfold bigZ
  have e : (z + z).natAbs = z.natAbs + z.natAbs := by omega
  rw [e]
  have := bl_two h
  omega
theorem not_big {z : Int} (h : bl z.natAbs < 1048576) : ¬ bigZ z := by unfold bigZ; omega
/-- where a row holds one place -/
theorem mulZ_one {l2 : GL} {i j y : Int} : ∀ {l : GL}, (l.map (·.1)).Nodup → (∀ p ∈ l, p.1.1 = i → p.1.2 = j) → mulZ l l2 (i, y) = zv l (i, j) * zv l2 (j, y)
  | [], _, _ => by simp [mulZ, zv, at0, lkp, iv0_val]
  | p :: l, hn, h => by
    have hn' : (l.map (·.1)).Nodup := (List.nodup_cons.1 hn).2
    have hp : p.1 ∉ l.map (·.1) := (List.nodup_cons.1 hn).1
    have ih := mulZ_one (l2 := l2) (i := i) (j := j) (y := y) hn' fun q hq => h q (List.mem_cons_of_mem _ hq)
    have e : mulZ (p :: l) l2 (i, y) = (if p.1.1 = i then ival p.2 * zv l2 (p.1.2, y) else 0) + mulZ l l2 (i, y) := by simp [mulZ]
    rw [e, ih]
    obtain ⟨⟨a, b⟩, v⟩ := p
    dsimp only at hp ⊢
    by_cases ha : a = i
    · have hb : b = j := h _ (List.mem_cons_self ..) ha
      subst ha hb
      have z0 : zv l (a, b) = 0 := zv_none (lkp_none.2 hp)
      have z1 : zv (((a, b), v) :: l) (a, b) = ival v := zv_some (by simp [lkp])
      rw [z0, z1, if_pos rfl, Int.zero_mul, Int.add_zero]
    · have z1 : zv (((a, b), v) :: l) (i, j) = zv l (i, j) := by
        unfold zv at0
        have : lkp (((a, b), v) :: l) (i, j) = lkp l (i, j) := by simp [lkp, ha]
        rw [this]
      rw [z1, if_neg ha, Int.zero_add]
end Go.Eng
namespace Go.Proofs.Ytlpheckjogphmaa
open Go Go.Eng Go.Proofs Go.NatM Go.RowKit
theorem ofm1_ok (w : World) : Cl Try.prog 28 #[.int .i64 (-1)] w (RetZ w (-1) 1) := by
  refine enter Try.func28 rfl rfl rfl ?_
  repeat' (first | refine TL.ev (ev_simple rfl) rfl ?_ | refine TL.grun rfl rfl rfl ?_ | refine TL.gskip rfl rfl rfl rfl ?_ | refine TL.gskipU rfl rfl rfl ?_ | (refine TL.call rfl rfl ?_; first | (refine (least_ok _ _ _ _ _ _ hSn (U64.one (by omega)) (by omega)).mono ?_; rintro _ wl ⟨Al, nl, cl, rfl, hOl, hEl, hKl⟩; refine Back.mk ?_; have hSl := hOl.sl (Nat.le_refl _); have hzl := hEl.size) | (refine (of_ok _ _ _ _ _ _ hSl).mono ?_; rintro _ wo ⟨rfl, hLo, hEo⟩; refine Back.mk ?_; have hzo := hEo.size)) | refine TL.ev (ev_len rfl) rfl ?_ | (refine TL.cmpG rfl rfl rfl rfl (fun hc => ?_) (fun hc => ?_) <;> try (exfalso; omega)) | refine TL.ev (ev_arN rfl rfl rfl (by omega)) rfl ?_ | refine TL.ev (ev_arI rfl rfl rfl (by omega)) rfl ?_ | refine TL.ev (ev_neg rfl (by omega)) rfl ?_ | refine TL.ev (ev_shrU rfl rfl (by first | omega | exact U64.getD (by assumption) _)) rfl ?_ | refine TL.ev (ev_shlU rfl rfl) rfl ?_ | refine TL.ev (ev_andU rfl rfl (by first | omega | exact U64.getD (by assumption) _) (by first | omega | exact U64.getD (by assumption) _)) rfl ?_ | refine TL.ev (ev_orU rfl rfl (by first | omega | exact U64.getD (by assumption) _) (by first | omega | exact U64.getD (by assumption) _)) rfl ?_ | refine TL.ev (ev_xorU rfl rfl (by first | omega | exact U64.getD (by assumption) _) (by first | omega | exact U64.getD (by assumption) _)) rfl ?_ | refine TL.ev (ev_convU rfl (by omega)) rfl ?_ | refine TL.ev (ev_convI rfl (by omega)) rfl ?_ | refine TL.ev (ev_arU rfl rfl rfl (by first | exact True.intro | omega)) rfl ?_ | (refine TL.ev (ev_convW (kd := .u64) (m := 18446744073709551615) rfl (by decide)) rfl ?_) | (refine TL.ev (ev_negM rfl) rfl ?_) | (refine TL.build1U rfl rfl (fun wn bn ebn hBn hEn hzn => ?_); have hSn := hBn.slN (n := 1) (c := 1) rfl (Nat.le_refl _) hBn.lt) | (refine TL.boxA rfl rfl (fun wb bb ebb hVb hEb hzb => ?_); have hlb := box_lo (w0 := w) (by repeat (first | exact Ext.refl _ | (refine Ext.trans ?_ (by assumption)) | (apply ext_upd; assumption; rotate_left; omega))) ebb) | (refine TL.alloc rfl (fun wa ba eba hVa hEa hza => ?_); have hla := box_lo (w0 := w) (by repeat (first | exact Ext.refl _ | (refine Ext.trans ?_ (by assumption)) | (apply ext_upd; assumption; rotate_left; omega))) eba) | (refine TL.ev (ev_fieldAddr rfl) rfl ?_) | (refine TF.s rfl (fun _ _ => ev_fieldAddr rfl) rfl ?_) | (refine TL.ev (ev_loadVX rfl (by refine ⟨?_, ?_⟩; (focus (repeat (first | assumption | (apply Vr.ext; assumption) | (apply Vr.updX; assumption; rotate_left; omega)))); rfl)) rfl ?_) | (refine TF.s rfl (fun _ hh => ev_loadVX rfl (by refine ⟨Vr.ext hh ?_, ?_⟩; (focus (repeat (first | assumption | (apply Vr.ext; assumption) | (apply Vr.updX; assumption; rotate_left; omega)))); rfl)) rfl ?_) | (refine TL.ev (ev_loadVAX rfl (by refine ⟨?_, ?_⟩; (focus (repeat (first | assumption | (apply Vr.ext; assumption) | (apply Vr.updX; assumption; rotate_left; omega)))); rfl)) rfl ?_) | (refine TF.s rfl (fun _ hh => ev_loadVAX rfl (by refine ⟨Vr.ext hh ?_, ?_⟩; (focus (repeat (first | assumption | (apply Vr.ext; assumption) | (apply Vr.updX; assumption; rotate_left; omega)))); rfl)) rfl ?_) | (refine TL.storeVX rfl rfl rfl rfl (by refine ⟨?_, ?_⟩; (focus (repeat (first | assumption | (apply Vr.ext; assumption) | (apply Vr.updX; assumption; rotate_left; omega)))); rfl) (fun ws hVs hUs hzs => ?_)) | (refine TL.storeX rfl rfl rfl rfl (by refine ⟨?_, ?_⟩; (focus (repeat (first | assumption | (apply Vr.ext; assumption) | (apply Vr.updX; assumption; rotate_left; omega)))); rfl) (fun ws hVs hUs hzs => ?_)) | (refine TL.ev (ev_buildX rfl rfl) rfl ?_) | (refine TF.s rfl (fun _ _ => ev_buildX rfl rfl) rfl ?_) | (refine TL.ev (ev_field rfl rfl) rfl ?_) | (refine TL.ev (ev_makeFunc rfl) rfl ?_) | (refine TF.s rfl (fun _ _ => ev_makeFunc rfl) rfl ?_) | refine TF.nil ?_ | refine TF.e rfl ?_ | refine TF.alt ?_ ?_ | refine G.treeEnd rfl ?_ | refine G.tree rfl (by repeat (first | exact Ext.refl _ | (refine Ext.trans ?_ (by assumption)) | (apply ext_upd; assumption; rotate_left; omega))) ?_ | refine TL.nilX (fun wq hzq hEq => ?_) | refine T.seq ?_ | refine T.region ?_ | refine TL.nil ?_ | refine T.block ?_ | refine T.cond_t rfl ?_ | refine T.cond_f rfl ?_ | refine T.exit ?_ | refine T.ret ?_ | refine T.skip ?_ | refine G.next ?_ | refine G.blockN ?_ | refine G.blockE ?_ | refine G.blockE' rfl ?_ | refine G.blockR ?_ | refine G.thenE ?_ | refine G.thenR ?_ | refine T.regionQ mixed (by kernel_rfl) ?_ | refine TL.nilQ (fun _ => ?_) | refine G.only ?_ | refine G.mixed ?_ | refine TM.nil ?_ | refine TM.e rfl ?_)
  exact G.retC1 rfl rfl (held_agg hVs rfl) ⟨_, rfl, LI.updV hUs (by repeat (first | assumption | (apply Vr.ext; assumption) | (apply Vr.updX; assumption; rotate_left; omega))) rfl hLo, (by repeat (first | exact Ext.refl _ | (refine Ext.trans ?_ (by assumption)) | (apply ext_upd; assumption; rotate_left; omega))), hKl⟩
end Go.Proofs.Ytlpheckjogphmaa

set_option linter.unusedSectionVars false
namespace Go.Eng
open Go Go.Proofs Go.NatM Go.RowKit Go.Proofs.Ytlpheckjogphmaa
/-- a grid that holds the function Z, N places of it -/
def GZ (H : Array Obj) (g m r c : Nat) (Z : Int × Int → Int) (N : Nat) : Prop := ∃ l : GL, Gr H g m r c l ∧ NZ l ∧ l.length = N ∧ ∀ k, zv l k = Z k
theorem Gr.lts {H : Array Obj} {g m r c : Nat} {l : GL} (h : Gr H g m r c l) : g < H.size ∧ m < H.size := by
  obtain ⟨es, k, hm, _⟩ := h.mp
  exact ⟨h.cells.lt, (Array.getElem?_eq_some_iff.1 hm).1⟩
theorem Gr.de {H H' : Array Obj} {g m r c : Nat} {l : GL} (h : Gr H g m r c l) (hd : DE (fun k => k = g ∨ k = m) H H') : Gr H' g m r c l := by
  have e : (dpGr g m r c l).fp = fun k => k = g ∨ k = m := by unfold dpGr; rfl
  have := (dpGr g m r c l).st H H' (by rw [e]; exact hd) (by unfold dpGr; exact h)
  unfold dpGr at this; exact this
def dpGZ (g m r c : Nat) (Z : Int × Int → Int) (N : Nat) : DP := ⟨fun H => GZ H g m r c Z N, fun k => k = g ∨ k = m, fun H k h e => by
  obtain ⟨l, h, _⟩ := h
  rcases e with rfl | rfl
  · exact h.lts.1
  · exact h.lts.2, fun H H' hd h => by
  obtain ⟨l, h, k⟩ := h
  exact ⟨l, h.de hd, k⟩⟩
section
variable {S : Nat → Prop} {w0 w w' : World} {L : List VB} {D : List DP}
theorem Fr.gz {g m r c N : Nat} {Z : Int × Int → Int} (hF : Fr w0 w L D S) (h : dpGZ g m r c Z N ∈ D) : GZ w.heap g m r c Z N := by
  have := hF.data _ h
  unfold dpGZ at this; exact this
theorem GZ.ext {g m r c N : Nat} {Z : Int × Int → Int} (h : GZ w.heap g m r c Z N) (hE : Ext w w') : GZ w'.heap g m r c Z N := by
  obtain ⟨l, h, k⟩ := h
  exact ⟨l, h.ext hE, k⟩
theorem GZ.lt {H : Array Obj} {g m r c N : Nat} {Z : Int × Int → Int} (h : GZ H g m r c Z N) : g < H.size ∧ m < H.size := by
  obtain ⟨l, h, _⟩ := h
  exact h.lts
theorem Fr.addZ {g m r c N : Nat} {Z : Int × Int → Int} (hF : Fr w0 w L D S) (hE : Ext w w') (hg : w.heap.size ≤ g) (hm : w.heap.size ≤ m) (hG : GZ w'.heap g m r c Z N) : Fr w0 w' L (dpGZ g m r c Z N :: D) S :=
  hF.addNew hE _ (by unfold dpGZ; exact hG) fun k hk => by
    unfold dpGZ at hk
    rcases hk with rfl | rfl
    · exact hg
    · exact hm
theorem Fr.callZ {g m r c N N' : Nat} {Z Z' : Int × Int → Int} (hF : Fr w0 w L (dpGZ g m r c Z N :: D) S) (hE : Exs (fun k => k = m) w w') (hb : w0.heap.size ≤ m ∨ S m) (hfree : ∀ x ∈ D, ¬ x.fp m) (hG : GZ w'.heap g m r c Z' N') : Fr w0 w' L (dpGZ g m r c Z' N' :: D) S := by
  obtain ⟨l, hg, _⟩ := hF.gz (List.mem_cons_self ..)
  obtain ⟨es, k, hm, _⟩ := hg.mp
  refine hF.callX hE hm rfl hb hfree (by unfold dpGZ; exact hG) fun _ h => ?_
  unfold dpGZ at h ⊢; exact h
theorem nf_gz {g b m r c N : Nat} {Z : Int × Int → Int} (h : g ≠ m) (h' : b ≠ m) : ¬ (dpGZ g b r c Z N).fp m := fun e => e.elim (fun e => h e.symm) fun e => h' e.symm
end
/-- a place of a function, told anew -/
def updZ (Z : Int × Int → Int) (p : Int × Int) (z : Int) (k : Int × Int) : Int := if p = k then z else Z k
/-- a row and kv times another -/
def rowF (Z : Int × Int → Int) (i j kv : Int) (k : Int × Int) : Int := if k.1 = i then Z (i, k.2) + kv * Z (j, k.2) else Z k
theorem rowZ_eq {l : GL} {Z : Int × Int → Int} (h : ∀ k, zv l k = Z k) (i j kv : Int) (k : Int × Int) : rowZ l i j kv k = rowF Z i j kv k := by
  unfold rowZ rowF; simp only [h]
end Go.Eng
namespace Go.Proofs.Ytlpheckjogphmaa
open Go Go.Eng Go.Proofs Go.NatM Go.RowKit
/-- what Set refuses -/
def SetBz (Z : Int × Int → Int) (N : Nat) (p : Int × Int) (z : Int) : Prop := bigZ z ∨ (Z p = 0 ∧ z ≠ 0 ∧ 4096 ≤ N)
def RetF (w : World) (g m r c : Nat) (Z : Int × Int → Int) (N : Nat) (er : Int) (e : Ending) (w' : World) : Prop := e = .returned (.int .i64 er) ∧ Exs (fun k => k = m) w w' ∧ GZ w'.heap g m r c Z N
theorem newF (w : World) (r c : Nat) (h : r ≤ 1048576 ∧ c ≤ 1048576) : Cl Try.prog 26 #[.int .i64 (r : Int), .int .i64 (c : Int)] w (fun e w' => ∃ g m, e = .returned (.tuple #[.pointer (some ⟨g, 0, none⟩), .int .i64 0]) ∧ Ext w w' ∧ w.heap.size ≤ g ∧ w.heap.size ≤ m ∧ GZ w'.heap g m r c (fun _ => 0) 0) := by
  refine (gnew_ok w r c h).mono ?_
  rintro e w' ⟨_, ⟨g, m, rfl, hE, hg, hm, hG⟩, _, hv, rfl⟩
  cases hv
  exact ⟨g, m, rfl, hE, hg, hm, [], hG, fun _ h => (by cases h), rfl, fun _ => rfl⟩
theorem setF5 (w : World) (g m r c N : Nat) (Z : Int × Int → Int) (p1 p2 : Int) (x : IV) (hG : GZ w.heap g m r c Z N) (hp : (0 ≤ p1 ∧ p1 < (r : Int)) ∧ (0 ≤ p2 ∧ p2 < (c : Int))) (hx : GI w.heap x) (hxn : x.m.n ≤ 1099511627776) (hb : SetBz Z N (p1, p2) (ival x)) :
    Cl Try.prog 16 #[.pointer (some ⟨g, 0, none⟩), .int .i64 p1, .int .i64 p2, ivA x] w (RetF w g m r c Z N 5) := by
  obtain ⟨l, hG, hz, hN, hv⟩ := hG
  have hb' : SetBad l (p1, p2) (ival x) := by unfold SetBad; rw [hv, hN]; exact hb
  refine (gsetZ_ok w g m r c l p1 p2 x hG hz hp hx hxn).mono ?_
  rintro e w' ⟨er, l2, ⟨rfl, hE, hG2⟩, ⟨rfl, rfl, _⟩ | ⟨_, hnb, _⟩⟩
  · exact ⟨rfl, hE, _, hG2, hz, hN, hv⟩
  · exact absurd hb' hnb
theorem setF0 (w : World) (g m r c N : Nat) (Z : Int × Int → Int) (p1 p2 : Int) (x : IV) (hG : GZ w.heap g m r c Z N) (hp : (0 ≤ p1 ∧ p1 < (r : Int)) ∧ (0 ≤ p2 ∧ p2 < (c : Int))) (hx : GI w.heap x) (hxn : x.m.n ≤ 1099511627776) (hb : ¬ SetBz Z N (p1, p2) (ival x))
    (Z' : Int × Int → Int) (N' : Nat) (hZ : ∀ k, updZ Z (p1, p2) (ival x) k = Z' k) (hN' : (N' : Int) = (N : Int) - (if Z (p1, p2) ≠ 0 then 1 else 0) + (if ival x ≠ 0 then 1 else 0)) :
    Cl Try.prog 16 #[.pointer (some ⟨g, 0, none⟩), .int .i64 p1, .int .i64 p2, ivA x] w (RetF w g m r c Z' N' 0) := by
  obtain ⟨l, hG, hz, hN, hv⟩ := hG
  have hb' : ¬ SetBad l (p1, p2) (ival x) := by unfold SetBad; rw [hv, hN]; exact hb
  refine (gsetZ_ok w g m r c l p1 p2 x hG hz hp hx hxn).mono ?_
  rintro e w' ⟨er, l2, ⟨rfl, hE, hG2⟩, ⟨rfl, rfl, hb2⟩ | ⟨rfl, _, hz2, hv2, hl2⟩⟩
  · exact absurd hb2 hb'
  · refine ⟨rfl, hE, l2, hG2, hz2, ?_, fun k => ?_⟩
    · rw [hv, hN] at hl2
      omega
    · rw [hv2, ← hZ]
      unfold updZ
      rw [hv]
theorem lenF (w : World) (g m r c N : Nat) (Z : Int × Int → Int) (hG : GZ w.heap g m r c Z N) : Cl Try.prog 15 #[.pointer (some ⟨g, 0, none⟩)] w (fun e w' => e = .returned (.int .i64 (N : Int)) ∧ Ext w w') := by
  obtain ⟨l, hG, hz, rfl, hv⟩ := hG
  exact glen_ok w g m r c l hG
theorem getF (w : World) (g m r c N : Nat) (Z : Int × Int → Int) (p1 p2 : Int) (hG : GZ w.heap g m r c Z N) (hp : (0 ≤ p1 ∧ p1 < (r : Int)) ∧ (0 ≤ p2 ∧ p2 < (c : Int))) :
    Cl Try.prog 31 #[.pointer (some ⟨g, 0, none⟩), .int .i64 p1, .int .i64 p2] w (RetZI w (Z (p1, p2)) 0) := by
  obtain ⟨l, hG, hz, hN, hv⟩ := hG
  rw [← hv]
  exact gget_ok w g m r c l p1 p2 hG hp
theorem denseF5 (w : World) (g m r c N : Nat) (Z : Int × Int → Int) (hG : GZ w.heap g m r c Z N) (h : 64 < r ∨ 64 < c) : Cl Try.prog 34 #[.pointer (some ⟨g, 0, none⟩)] w (fun e w' => e = .returned (.tuple #[.agg #[.int .i64 0, .int .i64 0, .slice none 0 0], .int .i64 5]) ∧ Ext w w') := by
  obtain ⟨l, hG, _⟩ := hG
  exact gdense_wide w g m r c l hG h
theorem rowF0 (w : World) (g m r c N : Nat) (Z : Int × Int → Int) (i j : Int) (kx : IV) (hG : GZ w.heap g m r c Z N) (hl : N ≤ 4096) (hi : 0 ≤ i ∧ i < (r : Int)) (hj : 0 ≤ j ∧ j < (r : Int)) (hk : GI w.heap kx) (hkn : kx.m.n ≤ 1073741824)
    (Z' : Int × Int → Int) (N' : Nat) (hZ : ∀ k, rowF Z i j (ival kx) k = Z' k) (hsm : ∀ k, ¬ bigZ (Z' k)) (hN : ((∀ k, Z' k ≠ 0 ↔ Z k ≠ 0) ∧ N' = N) ∨ ((∀ k, Z' k = 0) ∧ N' = 0)) :
    Cl Try.prog 30 #[.pointer (some ⟨g, 0, none⟩), .int .i64 i, .int .i64 j, ivA kx] w (RetF w g m r c Z' N' 0) := by
  obtain ⟨l, hG, hz, rfl, hv⟩ := hG
  have hn := (Gr.nodup hG)
  have key : ∀ l2 : GL, NZ l2 → (l2.map (·.1)).Nodup → (∀ k, zv l2 k = Z' k) → l2.length = N' := fun l2 hz2 hn2 h2 => by
    rcases hN with ⟨e, rfl⟩ | ⟨e, rfl⟩
    · exact hz2.lenI hz hn2 hn fun k => by rw [h2, hv]; exact e k
    · rw [hz2.none hn2 fun k => by rw [h2]; exact e k]; rfl
  have hN4 : N' ≤ 4096 := by rcases hN with ⟨_, rfl⟩ | ⟨_, rfl⟩ <;> omega
  refine (garow_ok w g m r c l i j kx hG hl hz hi hj hk hkn).mono ?_
  rintro e w' ⟨er, l2, ⟨rfl, hE, hG2⟩, ⟨rfl, rfl, hr⟩ | ⟨rfl, hz2, hl2, hv2, _⟩⟩
  · rcases hr with ⟨k, hk⟩ | ⟨l', hz', hn', hv', hl'⟩
    · rw [rowZ_eq hv, hZ] at hk; exact absurd hk (hsm k)
    · have := key l' hz' hn' fun k => by rw [hv', rowZ_eq hv, hZ]
      omega
  · exact ⟨rfl, hE, l2, hG2, hz2, key l2 hz2 (Gr.nodup hG2) fun k => by rw [hv2, rowZ_eq hv, hZ], fun k => by rw [hv2, rowZ_eq hv, hZ]⟩
/-- twice the places of a row do not fit -/
theorem rowF5 (w : World) (g m r c N : Nat) (Z : Int × Int → Int) (kx : IV) (hG : GZ w.heap g m r c Z N) (hl : N ≤ 4096) (hi : 1 < r) (hk : GI w.heap kx) (hkn : kx.m.n ≤ 1073741824)
    (h1 : ival kx = 1) (hs : ∀ k, Z k ≠ 0 → k.1 = 1) (h2 : 4096 < 2 * N) :
    Cl Try.prog 30 #[.pointer (some ⟨g, 0, none⟩), .int .i64 0, .int .i64 1, ivA kx] w (RetF w g m r c Z N 5) := by
  obtain ⟨l, hG, hz, rfl, hv⟩ := hG
  have hn := (Gr.nodup hG)
  refine (garow_ok w g m r c l 0 1 kx hG hl hz (by omega) (by omega) hk hkn).mono ?_
  rintro e w' ⟨er, l2, ⟨rfl, hE, hG2⟩, ⟨rfl, rfl, hr⟩ | ⟨rfl, hz2, hl2, hv2, _⟩⟩
  · exact ⟨rfl, hE, _, hG2, hz, rfl, hv⟩
  · exfalso
    have hk1 : ∀ q ∈ l.map (·.1), q.1 = 1 := fun q hq => hs q (by rw [← hv]; exact (hz.keys q).1 hq)
    have hnd : ((l.map (·.1)) ++ (l.map (·.1)).map (fun q => ((0 : Int), q.2))).Nodup := by
      have i2 : ((l.map (·.1)).map (fun q => ((0 : Int), q.2))).Nodup := List.pairwise_map.2 (List.Pairwise.imp_of_mem (fun {a b} ha hb hne e => hne (Prod.ext ((hk1 a ha).trans (hk1 b hb).symm) (Prod.mk.inj e).2)) hn)
      refine List.nodup_append.2 ⟨hn, i2, fun a ha b hb e => ?_⟩
      subst e
      obtain ⟨q, _, rfl⟩ := List.mem_map.1 hb
      exact absurd (hk1 _ ha) (fun e => by cases e)
    have := hz2.atLeast hnd fun k hk => by
      rw [hv2]
      unfold rowZ
      rw [h1]
      rcases List.mem_append.1 hk with hk | hk
      · rw [if_neg (by rw [hk1 _ hk]; decide)]
        exact (hz.keys k).1 hk
      · obtain ⟨q, hq, rfl⟩ := List.mem_map.1 hk
        have e1 : zv l (0, q.2) = 0 := Classical.byContradiction fun h => absurd (hs (0, q.2) (by rw [← hv]; exact h)) (fun e => by cases e)
        have e2 : q = (1, q.2) := Prod.ext (hk1 q hq) rfl
        dsimp only
        rw [if_pos rfl, e1, Int.zero_add, Int.one_mul, ← e2]
        exact (hz.keys q).1 hq
    simp only [List.length_append, List.length_map] at this
    omega
/-- two rows of one row's places do not fit -/
theorem mulF5 (w : World) (g m g2 m2 N N2 : Nat) (Z Zc : Int × Int → Int) (vz : Int) (hz0 : vz ≠ 0) (hGc : GZ w.heap g2 m2 3 3 Zc N2) (hG : GZ w.heap g m 3 5000 Z N) (hl : N ≤ 4096) (hl2 : N2 ≤ 4096)
    (hc : ∀ k, Zc k = if k = (0, 1) ∨ k = (2, 1) then vz else 0) (hs : ∀ k, Z k ≠ 0 → k.1 = 1) (h2 : 4096 < 2 * N) :
    Cl Try.prog 22 #[.pointer (some ⟨g2, 0, none⟩), .pointer (some ⟨g, 0, none⟩)] w (RetLg w 5) := by
  obtain ⟨l, hG, hz, rfl, hv⟩ := hG
  obtain ⟨lc, hGc, hzc, rfl, hvc⟩ := hGc
  have hn := (Gr.nodup hG)
  have hnc := (Gr.nodup hGc)
  refine (gmul_ok w g2 m2 g m 3 3 5000 lc l hGc hG hl2 hl).mono ?_
  rintro e w' (⟨g3, m3, l', rfl, hE, _, _, hG3, hz3, hl3, hv3, _⟩ | ⟨_, h⟩)
  · exfalso
    have hk1 : ∀ q ∈ l.map (·.1), q.1 = 1 := fun q hq => hs q (by rw [← hv]; exact (hz.keys q).1 hq)
    have hkc : ∀ p ∈ lc, p.1.2 = 1 := fun p hp => by
      have h1 : zv lc p.1 ≠ 0 := (hzc.keys p.1).1 (List.mem_map_of_mem hp)
      rw [hvc, hc] at h1
      by_cases h : p.1 = (0, 1) ∨ p.1 = (2, 1)
      · rcases h with h | h <;> rw [h]
      · rw [if_neg h] at h1; exact absurd rfl h1
    have hmul : ∀ i, i = 0 ∨ i = 2 → ∀ y, mulZ lc l (i, y) = vz * zv l (1, y) := fun i hi y => by
      rw [mulZ_one (j := 1) hnc fun p hp _ => hkc p hp, hvc, hc]
      rcases hi with rfl | rfl <;> simp
    have hnd : ((l.map (·.1)).map (fun q => ((2 : Int), q.2)) ++ (l.map (·.1)).map (fun q => ((0 : Int), q.2))).Nodup := by
      have inj : ∀ a b : Int × Int, a ∈ l.map (·.1) → b ∈ l.map (·.1) → a ≠ b → a.2 ≠ b.2 := fun a b ha hb hne e => hne (Prod.ext ((hk1 a ha).trans (hk1 b hb).symm) e)
      refine List.nodup_append.2 ⟨List.pairwise_map.2 (List.Pairwise.imp_of_mem (fun {a b} ha hb hne e => inj a b ha hb hne (Prod.mk.inj e).2) hn), List.pairwise_map.2 (List.Pairwise.imp_of_mem (fun {a b} ha hb hne e => inj a b ha hb hne (Prod.mk.inj e).2) hn), fun a ha b hb e => ?_⟩
      subst e
      obtain ⟨q, _, rfl⟩ := List.mem_map.1 hb
      obtain ⟨q', _, e'⟩ := List.mem_map.1 ha
      exact absurd (Prod.mk.inj e').1 (by decide)
    have := hz3.atLeast hnd fun k hk => by
      rw [hv3]
      have : ∃ i q, (i = 0 ∨ i = 2) ∧ q ∈ l.map (·.1) ∧ k = (i, q.2) := by
        rcases List.mem_append.1 hk with hk | hk
        · obtain ⟨q, hq, rfl⟩ := List.mem_map.1 hk; exact ⟨2, q, .inr rfl, hq, rfl⟩
        · obtain ⟨q, hq, rfl⟩ := List.mem_map.1 hk; exact ⟨0, q, .inl rfl, hq, rfl⟩
      obtain ⟨i, q, hi, hq, rfl⟩ := this
      have e2 : q = (1, q.2) := Prod.ext (hk1 q hq) rfl
      rw [hmul i hi, ← e2]
      exact Int.mul_ne_zero hz0 ((hz.keys q).1 hq)
    simp only [List.length_append, List.length_map] at this
    omega
  · exact h
end Go.Proofs.Ytlpheckjogphmaa
