/- Layer 10: a row's new numbers; writes into lists of places. Layer 10: the contract of AddRow. Layer 10: the order of places: cmp.Compare, cmp.Or, the function that Places hands to the sort; worlds exactly. Layer 10: rows of places as the sort's contract names them. Layer 10: the contract of Places, over one of the sort. The sort of places, by the shelf: its contract laid at this translation. Layer 10: the sort of places. Layer 10: the contract of byRow. Layer 10: the sums of a product, in plain words. Layer 10: the contract of Mul (printed by genmul10.py). Layer 10: contracts over grids as functions. zint.Of at -1. Layer 10: small things for SparseFull: the integer -1, products of one row, doubled numbers. Layer 10: grids as functions from places to numbers, with the number of places; the contracts in these words. Layer 10: products, sums and transposes of functions with finitely many places; when they may be refused. Layer 10: product, sum, transpose and places of grids as functions. Layer 10: the law's helpers: alike, places, same, refusal, digits. The engine: walks that stop ahead of a region. Layer 10: the law SparseFull. Layer 10: the law's digits. Layer 10: the law's laid. Range over a function whose rounds write maps (EngR's rule, with what rounds keep told more narrowly). -/
import Derived.Test.YtlpheckjogphmaaGreatPz6
import Derived.Sort.Grow
import Derived.Shelf.GgSortFunc.InsertionK
import Derived.Shelf.SlSortCmp.WholeK
import Derived.Test.YtlpheckjogphmaaGreatProg
import Derived.Test.YtlpheckjogphmaaGreatPz5
import Derived.Test.YtlpheckjogphmaaGreatPz1
import Derived.Test.YtlpheckjogphmaaGreatPz3
set_option maxHeartbeats 8000000
set_option linter.unusedVariables false
set_option linter.unusedSimpArgs false
set_option linter.unusedSectionVars false
namespace Go.Eng
open Go Go.Proofs Go.NatM Go.RowKit Go.Proofs.YtlpheckjogphmaaGreat
def apl (i : Int) (l nw : GL) : GL := nw.foldl (fun l p => putL l (i, p.1.2) p.2) l
theorem apl_snoc (i : Int) (l nw : GL) (p : (Int × Int) × IV) : apl i l (nw ++ [p]) = putL (apl i l nw) (i, p.1.2) p.2 := by simp [apl, List.foldl_append]
theorem apl_nodup (i : Int) {l : GL} (hn : (l.map (·.1)).Nodup) : ∀ (nw : GL), ((apl i l nw).map (·.1)).Nodup := fun nw => by
  induction nw generalizing l with
  | nil => exact hn
  | cons p nw ih => exact ih (putL_nodup hn _ _)
theorem apl_NZ (i : Int) {l : GL} (h : NZ l) : ∀ (nw : GL), NZ (apl i l nw) := fun nw => by
  induction nw generalizing l with
  | nil => exact h
  | cons p nw ih => exact ih (h.put _ _)
theorem apl_mem (i : Int) {l nw : GL} {p : (Int × Int) × IV} (h : p ∈ apl i l nw) : p ∈ l ∨ ∃ q ∈ nw, p.2 = q.2 := by
  induction nw generalizing l with
  | nil => exact .inl h
  | cons q nw ih =>
    rcases ih h with h | ⟨q', hq, e⟩
    · rcases putL_mem h with rfl | h
      · exact .inr ⟨q, List.mem_cons_self .., rfl⟩
      · exact .inl h
    · exact .inr ⟨q', List.mem_cons_of_mem _ hq, e⟩
theorem apl_lkp (i : Int) {l : GL} (hn : (l.map (·.1)).Nodup) {y : Int} : ∀ {nw : GL}, (∀ q ∈ nw, q.1.2 ≠ y) → lkp (apl i l nw) (i, y) = lkp l (i, y) := fun {nw} h => by
  induction nw generalizing l with
  | nil => rfl
  | cons q nw ih =>
    show lkp (apl i (putL l (i, q.1.2) q.2) nw) (i, y) = _
    rw [ih (putL_nodup hn _ _) fun q' hq => h q' (List.mem_cons_of_mem _ hq), lkp_putL hn]
    intro e
    simp only [Prod.mk.injEq, true_and] at e
    exact h q (List.mem_cons_self ..) e
theorem zv_apl {i j : Int} : ∀ {nw l : GL}, (l.map (·.1)).Nodup → (nw.map (·.1)).Nodup → (∀ p ∈ nw, p.1.1 = j) → ∀ x y, zv (apl i l nw) (x, y) = if x = i then (match lkp nw (j, y) with | some v => ival v | none => zv l (i, y)) else zv l (x, y)
  | [], l, _, _, _, x, y => by
    by_cases h : x = i
    · subst h; simp [apl, lkp]
    · simp [apl, h]
  | p :: nw, l, hn, hnn, hj, x, y => by
    simp only [List.map_cons, List.nodup_cons] at hnn
    show zv (apl i (putL l (i, p.1.2) p.2) nw) (x, y) = _
    rw [zv_apl (putL_nodup hn _ _) hnn.2 (fun q hq => hj q (List.mem_cons_of_mem _ hq)), zv_putL hn, zv_putL hn]
    have hp := hj p (List.mem_cons_self ..)
    obtain ⟨⟨p1, p2⟩, pv⟩ := p
    simp only at hp
    subst hp
    by_cases hx : x = i
    · subst hx
      simp only [if_true, lkp, Prod.mk.injEq, true_and]
      by_cases hy : p2 = y
      · subst hy
        rw [lkp_none.2 hnn.1]; simp
      · simp [hy]
    · have : ¬ i = x := fun e => hx e.symm
      simp [hx, this]
theorem lkp_map_eq {K V W A : Type} [DecidableEq K] {f : K × V → A} {g : K × W → A} : ∀ {l1 : List (K × V)} {l2 : List (K × W)}, l1.map (fun p => (p.1, f p)) = l2.map (fun p => (p.1, g p)) → ∀ k, (lkp l1 k).map (fun v => f (k, v)) = (lkp l2 k).map (fun v => g (k, v))
  | [], [], _, k => rfl
  | [], _ :: _, h, _ => by simp at h
  | _ :: _, [], h, _ => by simp at h
  | (a, u) :: l1, (b, v) :: l2, h, k => by
    simp only [List.map_cons, List.cons.injEq, Prod.mk.injEq] at h
    obtain ⟨⟨rfl, h1⟩, h2⟩ := h
    simp only [lkp]
    by_cases hk : a = k
    · subst hk; simp [h1]
    · simp only [hk, if_false]; exact lkp_map_eq h2 k
def rowZ (l : GL) (i j kv : Int) (k : Int × Int) : Int := if k.1 = i then zv l (i, k.2) + kv * zv l (j, k.2) else zv l k
def NewR (l : GL) (i kv : Int) (l' nw : GL) : Prop := nw.map (fun p => (p.1, ival p.2)) = l'.map (fun p => (p.1, kv * ival p.2 + zv l (i, p.1.2)))
theorem NewR.keys {l l' nw : GL} {i kv : Int} (h : NewR l i kv l' nw) : nw.map (·.1) = l'.map (·.1) := by
  have := congrArg (List.map Prod.fst) h
  simpa [List.map_map, Function.comp_def] using this
theorem NewR.snoc {l l' nw : GL} {i kv : Int} (h : NewR l i kv l' nw) {p : (Int × Int) × IV} {y : IV} (e : ival y = kv * ival p.2 + zv l (i, p.1.2)) : NewR l i kv (l' ++ [p]) (nw ++ [(p.1, y)]) := by
  unfold NewR at h ⊢
  rw [List.map_append, List.map_append, h]
  simp [e]
theorem NewR.zv {l l' nw : GL} {i j kv : Int} (hn : (l.map (·.1)).Nodup) (hp : l'.Perm (inRow j l)) (h : NewR l i kv l' nw) (k : Int × Int) : zv (apl i l nw) k = rowZ l i j kv k := by
  have hn' : (l'.map (·.1)).Nodup := ((hp.map _).nodup_iff).2 (hn.sublist (List.filter_sublist.map _))
  have hnw : (nw.map (·.1)).Nodup := by rw [h.keys]; exact hn'
  have hj : ∀ p ∈ nw, p.1.1 = j := fun p hm => by
    have : p.1 ∈ l'.map (·.1) := by rw [← h.keys]; exact List.mem_map.2 ⟨p, hm, rfl⟩
    obtain ⟨q, hq, e⟩ := List.mem_map.1 this
    rw [← e]; exact (mem_inRow.1 (hp.mem_iff.1 hq)).2
  obtain ⟨x, y⟩ := k
  rw [zv_apl hn hnw hj]
  unfold rowZ
  by_cases hx : x = i
  · subst hx
    simp only [if_true]
    have h1 := lkp_map_eq (K := Int × Int) (V := IV) (W := IV) (f := fun p => ival p.2) (g := fun p => kv * ival p.2 + Go.Eng.zv l (x, p.1.2)) h (j, y)
    rw [lkp_perm hn' hp, lkp_inRow] at h1
    simp only [if_true] at h1
    cases hq : lkp l (j, y) with
    | none =>
      rw [hq] at h1
      cases hr : lkp nw (j, y) with
      | none => rw [zv_none hq]; simp
      | some v => rw [hr] at h1; cases h1
    | some u =>
      rw [hq] at h1
      cases hr : lkp nw (j, y) with
      | none => rw [hr] at h1; cases h1
      | some v =>
        rw [hr] at h1
        simp only [Option.map_some, Option.some.injEq] at h1
        rw [zv_some hq]
        simp only [h1]; omega
  · simp [hx]
theorem putO_plc : ∀ {l : GL} {k : Nat} {p : (Int × Int) × IV} (y : IV) (zs : List Value), l[k]? = some p → putO (l.flatMap plc ++ zs) (k * 4 + 2) [.bool y.neg, .slice y.m.A y.m.n y.m.c] = some ((l.set k (p.1, y)).flatMap plc ++ zs)
  | [], k, p, y, zs, h => by simp at h
  | q :: l, 0, p, y, zs, h => by
    simp only [List.getElem?_cons_zero, Option.some.injEq] at h
    subst h
    simp [plc, putO]
  | q :: l, k + 1, p, y, zs, h => by
    simp only [List.getElem?_cons_succ] at h
    have ih := putO_plc (l := l) y zs h
    have e : (k + 1) * 4 + 2 = (k * 4 + 2) + 1 + 1 + 1 + 1 := by omega
    rw [e]
    simp only [List.flatMap_cons, plc, List.cons_append, List.nil_append, List.append_assoc, putO, List.set_cons_succ]
    rw [ih]
section
variable {P : Program} {N : Fm} {Q : Exit → Act → World → Prop} {σ : Go.Eng.Store} {S : Nat → Prop} {w0 w : World} {L : List VB} {D : List DP} {ops : Array Oper} {t : TypeId} {pos : String} {af : Array Edge} {rest : List Oper}
theorem TL.storePl (hF : Fr w0 w L D S) {x y : Operand} {ty e : TypeId} {z : Value} {b1 : Nat} [hS : USize P ty z 2 b1] {b k : Nat} {l : GL} {zs : List Value} {p : (Int × Int) × IV} (v : IV) {L' : List VB}
    (hx : Go.Eng.look σ x = some (.pointer (elemA (some ⟨b, 0, none⟩) (k * 4 + 2)))) (hy : Go.Eng.look σ y = some (ivA v)) (hk : l[k]? = some p) (hz : zs.all noU64 = true)
    (hL : SetV L b e (l.flatMap plc ++ zs) ((l.set k (p.1, v)).flatMap plc ++ zs) L') (K : ∀ w', Fr w0 w' L' D S → TL P N .seq ops Q rest σ w') : TL P N .seq ops Q (⟨none, .store ty x y, t, pos, af, none⟩ :: rest) σ w := by
  have hx' : Go.Eng.look σ x = some (.pointer (some ⟨b, k * 4 + 2, none⟩)) := by rw [hx]; unfold elemA; simp [add_mk]
  exact TL.storeVA (vs := [.bool v.neg, .slice v.m.A v.m.n v.m.c]) hx' hy rfl rfl (hF.var hL.inV) (putO_plc v zs hk) fun w' h1 h2 => K w' (hF.store hL (plc_no l hz) h2 h1)
end
theorem pb_sm {S : Nat → Prop} {w0 w : World} {L : List VB} {D : List DP} {b c n : Nat} {l : GL} {zs : List Value} (hF : Fr w0 w L D S) (h : InV L b 57 (l.flatMap plc ++ zs)) (hn : l.length = n) (hc : n ≤ c) : Sm 4 plc w.heap w.heap.size (some ⟨b, 0, none⟩) n c l := by
  have hV := hF.var h
  exact vr_sm (by decide) (fun _ _ => rfl) hV hn hc hV.lt
section
variable {S : Nat → Prop} {w0 w : World} {L : List VB} {D : List DP}
theorem Fr.lvSm {l : GL} {pb : PB} (hF : Fr w0 w (lvb l pb ++ L) D S) (h : PBok l pb) : Fr w0 w L (dpSmG 4 plc (slA pb) l.length (slC pb) l :: D) S := by
  have hw := hF.weak (L := L) (D := D) (List.sublist_append_right _ _) allR
  cases pb with
  | none =>
    have e : l = [] := h
    subst e
    refine hw.add _ (by unfold dpSmG; exact ⟨rfl, Nat.le_refl _, (by decide), fun _ h => (by cases h), .inl rfl⟩) fun v hv hk => ?_
    unfold dpSmG at hk
    exact absurd hk.1 (Nat.lt_irrefl _)
  | some x =>
    obtain ⟨b, c, zs⟩ := x
    obtain ⟨h0, hc, hz, _⟩ := h
    have hV := hF.var (b := b) .head
    refine hw.add _ (by unfold dpSmG; exact vr_sm (by decide) (fun _ _ => rfl) hV rfl hc hV.lt) fun v hv hk => ?_
    unfold dpSmG at hk
    obtain ⟨_, o, e⟩ := hk
    have hd := (List.pairwise_cons.1 (show List.Pairwise (fun x y : VB => x.b ≠ y.b) (⟨b, 57, l.flatMap plc ++ zs⟩ :: L) from hF.dist)).1 v hv
    simp only [slA, Option.some.injEq, Addr.mk.injEq] at e
    exact hd e.1
theorem Fr.grA {g m r c : Nat} {i : Int} {l nw nw' : GL} (hF : Fr w0 w L D S) (h1 : dpMp spot ivA m (apl i l nw') ∈ D) (h2 : dpCb g 84 (grc r c m) ∈ D) (h3 : dpGv l ∈ D) (h4 : dpGv nw ∈ D) (hs : ∀ p ∈ nw', p ∈ nw) : Gr w.heap g m r c (apl i l nw') :=
  ⟨(by have := hF.data _ h2; unfold dpCb at this; exact this), hF.mp h1, fun p hp => by
    have h5 := hF.data _ h3
    have h6 := hF.data _ h4
    unfold dpGv at h5 h6
    rcases apl_mem i hp with hp | ⟨q, hq, e⟩
    · exact h5 p hp
    · rw [e]; exact h6 q (hs q hq)⟩
theorem PBok.len {l l' : GL} {pb : PB} (h : PBok l pb) (e : l'.length = l.length) : PBok l' pb := by
  cases pb with
  | none => have h : l = [] := h; subst h; exact List.eq_nil_of_length_eq_zero e
  | some x => unfold PBok at h ⊢; rw [e]; exact h
end
end Go.Eng
set_option linter.unusedSectionVars false
namespace Go.Proofs.YtlpheckjogphmaaGreat
open Go Go.Eng Go.Proofs Go.NatM Go.RowKit
def RetAR (w : World) (g m r c : Nat) (l : GL) (Z : Int × Int → Int) (e : Ending) (w' : World) : Prop := ∃ (er : Int) (l2 : GL), RetW w g m r c l2 (.int .i64 er) e w' ∧ ((er = 5 ∧ l2 = l ∧ Refu Z) ∨ (er = 0 ∧ NZ l2 ∧ l2.length ≤ 4096 ∧ (∀ k, zv l2 k = Z k) ∧ ∀ k, ¬ bigZ (Z k)))
theorem take_notin {K V : Type} {l : List (K × V)} (hn : (l.map (·.1)).Nodup) {k : Nat} {p : K × V} (h : l[k]? = some p) : p.1 ∉ (l.take k).map (·.1) := fun hm => by
  obtain ⟨hlt, he⟩ := List.getElem?_eq_some_iff.1 h
  have e : l = l.take k ++ p :: l.drop (k + 1) := by rw [← he, ← List.drop_eq_getElem_cons hlt, List.take_append_drop]
  rw [e, List.map_append, List.map_cons] at hn
  exact (List.nodup_append.1 hn).2.2 _ hm p.1 (List.mem_cons_self ..) rfl
theorem sig_zero {z : Int} (h : ¬ sig z ≠ 0) : z = 0 := Classical.byContradiction fun hz => h (sig_ne hz)
theorem garow_ok (w : World) (g m r c : Nat) (l : GL) (i j : Int) (kx : IV) (hG : Gr w.heap g m r c l) (hl : l.length ≤ 4096) (hz : NZ l) (hi : 0 ≤ i ∧ i < (r : Int)) (hj : 0 ≤ j ∧ j < (r : Int)) (hk : GI w.heap kx) (hkn : kx.m.n ≤ 1073741824) :
    Cl Tryz.prog 13 #[.pointer (some ⟨g, 0, none⟩), .int .i64 i, .int .i64 j, ivA kx] w (RetAR w g m r c l (rowZ l i j (ival kx))) := by
  have hn : (l.map (·.1)).Nodup := by obtain ⟨es, k, _, h⟩ := hG.mp; exact h.keys
  have hsm := gv_small hG.vals
  have hF := Gr.frD hG (Fr.mt (Fr.refS w fun k => k = m) (dpGI kx) (by unfold dpGI; exact hk))
  have hgm := hG.ne
  clear hG hk
  have h1 := fun w1 => in_t w1 i r hi
  have h2 := fun w1 => in_t w1 j r hj
  have hln := fun w1 (hG : Gr w1.heap g m r c l) => gline_ok w1 g m r c l j hG (by omega)
  obtain ⟨xn, ⟨xA, xk, xc, xl⟩⟩ := kx
  generalize hkv : ival ⟨xn, ⟨xA, xk, xc, xl⟩⟩ = kv
  dsimp only at hkn
  refine enter Tryz.func13 rfl rfl rfl ?_
  repeat' (first | (refine TL.isOp ?_; first | (refine TL.isG ?_; first | refine TL.grun rfl rfl rfl ?_) | (refine TL.isCall ?_; refine TL.call rfl rfl ?_; first | (refine (h1 _).mono ?_; rintro _ wy ⟨rfl, hE⟩; replace hF := hF.exts hE; clear hE; refine Back.mk ?_) | (refine (h2 _).mono ?_; rintro _ wy ⟨rfl, hE⟩; replace hF := hF.exts hE; clear hE; refine Back.mk ?_) | (refine (hln _ (hF.gr (by repeat (first | exact memH | apply memT)) (by repeat (first | exact memH | apply memT)) (by repeat (first | exact memH | apply memT)))).mono ?_; rintro _ wy ⟨l', pb, hpm, hpb, rfl, hFl⟩; rw [slv_eq hpb]; replace hF := Fr.joinF hF hFl (fun d hd => by cases hd); clear hFl; refine Back.mk ?_)) | (apply TL.ev; (case hd => rfl); (case h => (first | exact ev_simple rfl | (apply Ev.isBin; first | exact ev_eqlP rfl rfl rfl) | (apply Ev.isLoad; first | exact ev_loadCb hF rfl (by repeat (first | exact memH | apply memT)) rfl) | exact ev_len rfl | exact ev_fieldAddr rfl | exact ev_nilCheck rfl))) | (refine TL.boxAFr hF (d := 7) (cs := [.bool xn, .slice xA xk xc]) rfl rfl ?_; clear hF; intro w7 b7 hF)) | (refine TF.is ?_; first | refine TF.nil ?_ | refine TF.e rfl ?_ | (refine TF.pick rfl ?_; first | (apply TFo.ev; (case hd => rfl); (case h => (intro wh hF; first | exact ev_simple rfl | (apply Ev.isLoad; first | exact ev_loadCb hF rfl (by repeat (first | exact memH | apply memT)) rfl) | exact ev_fieldAddr rfl | exact ev_nilCheck rfl | exact ev_mlen hF rfl (by repeat (first | exact memH | apply memT))))))) | (refine T.is ?_; first | refine T.seq ?_ | refine T.region ?_ | refine T.block ?_ | refine T.cond_f rfl ?_ | refine T.skip ?_ | (refine T.regionFr hF 3 10 (.s 0 (.s 1 (.s 3 (.s 4 (.s 5 (.s 6 (.e 2 (.s 7 (.s 8 (.s 9 .nil)))))))))) mixed (by kernel_rfl) ?_; clear hF; intro wr hF)) | (refine G.is ?_; first | refine G.next ?_ | refine G.only ?_ | refine G.tree rfl (by first | exact hF | exact hF.weak (List.sublist_append_right _ _) (by repeat (first | exact allR | apply allT)) | exact hF.weak (by repeat (first | exact List.Sublist.refl _ | apply List.Sublist.cons)) (by repeat (first | exact allR | apply allT)) | exact hF.weak (by repeat (first | exact List.Sublist.refl _ | apply List.Sublist.cons)) (by repeat (first | exact allN | refine allH (by repeat (first | exact memH | apply memT)) ?_))) ?_) | refine TL.nil ?_)
  have hlen := hpm.length_eq
  have hlen2 := inRow_len j l
  have hrow : ∀ p ∈ l', p ∈ l ∧ p.1.1 = j := fun p hp => mem_inRow.1 (hpm.mem_iff.1 hp)
  have hnl : (l'.map (·.1)).Nodup := ((hpm.map _).nodup_iff).2 (hn.sublist (List.filter_sublist.map _))
  refine T.loop (α := GL × Int) (fun x => [(0, .pointer (some ⟨g, 0, none⟩)), (1, .int .i64 i), (7, .pointer (some ⟨b7, 0, none⟩)), (9, .slice (slA pb) l'.length (slC pb)), (10, .int .i64 x.2), (45, .slice (slA pb) l'.length (slC pb)), (46, .int .i64 (l'.length : Int)), (47, .int .i64 (x.1.length : Int))])
    (fun x w' => (x.1.length ≤ l'.length ∧ NewR l i kv (l'.take x.1.length) x.1 ∧ x.2 = ((apl i l x.1).length : Int) ∧ (∀ p ∈ x.1, ¬ bigZ (ival p.2)) ∧ (apl i l x.1).length ≤ l.length + x.1.length) ∧ Fr w w' (lvb (x.1 ++ l'.drop x.1.length) pb ++ [⟨b7, 27, [.bool xn, .slice xA xk xc]⟩]) [dpMp spot ivA m l, dpCb g 84 (grc r c m), dpGv l, dpGI ⟨xn, ⟨xA, xk, xc, xl⟩⟩, dpGv x.1] (fun k => k = m)) (fun x => l'.length - x.1.length) ([], (l.length : Int)) (by repeat (first | exact Sub.nil _ | refine Sub.cons rfl ?_ | refine Sub.cons' rfl (int_congr (by omega)) ?_)) ⟨⟨Nat.zero_le _, rfl, rfl, fun p hp => (by cases hp), Nat.le_refl _⟩, by
      have h0 := Fr.addGv hF (l := []) fun p hp => (by cases hp)
      exact h0.weak (List.Sublist.refl _) (allH (by repeat (first | exact memH | apply memT)) (allH (by repeat (first | exact memH | apply memT)) (allH (by repeat (first | exact memH | apply memT)) (allH (by repeat (first | exact memH | apply memT)) (allH (by repeat (first | exact memH | apply memT)) allN)))))⟩ ?_
  clear hF
  rintro ⟨nw, n⟩ w1 ⟨⟨hk, hnew, hnn, hnb, hap⟩, hF⟩
  dsimp only at hk hnew hnn hnb hap hF ⊢
  rcases Nat.lt_or_ge nw.length l'.length with hkn | hkn
  · obtain ⟨p, hp⟩ : ∃ p, l'[nw.length]? = some p := ⟨_, List.getElem?_eq_getElem hkn⟩
    have hpl := hrow p (List.mem_of_getElem? hp)
    rcases pb with _ | ⟨bp, cp, zp⟩
    · have e : l' = [] := hpb
      subst e
      simp at hkn
    obtain ⟨hb0, hbc, hbz, hbo⟩ := hpb
    generalize hls : nw ++ l'.drop nw.length = ls at hF
    have hll : ls.length = l'.length := by rw [← hls, List.length_append, List.length_drop]; omega
    have hget : ls[nw.length]? = some p := by rw [← hls, List.getElem?_append_right (Nat.le_refl _), Nat.sub_self, List.getElem?_drop, Nat.add_zero]; exact hp
    have hget2 : ∀ y, (ls.set nw.length (p.1, y))[nw.length]? = some (p.1, y) := fun y => List.getElem?_set_self (by omega)
    have hsl : ∀ y, (ls.set nw.length (p.1, y)).length = l'.length := fun y => by rw [List.length_set, hll]
    have hlk : lkp (apl i l nw) (i, p.1.2) = lkp l (i, p.1.2) := apl_lkp i hn fun q hq e => by
      have h3 : q.1 ∈ (l'.take nw.length).map (·.1) := by rw [← hnew.keys]; exact List.mem_map.2 ⟨q, hq, rfl⟩
      obtain ⟨q', hq', e'⟩ := List.mem_map.1 h3
      have h4 : q'.1 = p.1 := by
        have a1 := (hrow q' (List.mem_of_mem_take hq')).2
        have a2 := hpl.2
        rw [e'] at a1 ⊢
        exact Prod.ext (a1.trans a2.symm) e
      exact take_notin hnl hp (h4 ▸ List.mem_map.2 ⟨q', hq', rfl⟩)
    obtain ⟨hd, hhd⟩ : ∃ hd, (lkp l (i, p.1.2)).isSome = hd := ⟨_, rfl⟩
    have hzj : zv l (j, p.1.2) = ival p.2 := zv_some (lkp_of_mem hn (by have a1 := hpl.1; have a2 := hpl.2; rw [← a2]; exact a1))
    have hrz : ∀ y, ival y = kv * ival p.2 + ival (at0 l (i, p.1.2)) → rowZ l i j kv (i, p.1.2) = ival y := fun y e => by
      unfold rowZ
      simp only [if_true]
      rw [hzj, e, Int.add_comm]; rfl
    have hset : ∀ u, ls.set nw.length u = (nw ++ [u]) ++ l'.drop (nw ++ [u]).length := fun u => by
      rw [← hls, List.set_append_right _ _ (Nat.le_refl _), Nat.sub_self, List.drop_eq_getElem_cons hkn, List.set_cons_zero, List.length_append]
      simp
    have hnext : ∀ (y : IV) (n' : Int), ival y = kv * ival p.2 + ival (at0 l (i, p.1.2)) → ¬ bigZ (ival y) → n' = n - (if hd then 1 else 0) + (if ival y ≠ 0 then 1 else 0) →
        ((nw ++ [(p.1, y)]).length ≤ l'.length ∧ NewR l i kv (l'.take (nw ++ [(p.1, y)]).length) (nw ++ [(p.1, y)]) ∧ n' = ((apl i l (nw ++ [(p.1, y)])).length : Int) ∧ (∀ q ∈ nw ++ [(p.1, y)], ¬ bigZ (ival q.2)) ∧ (apl i l (nw ++ [(p.1, y)])).length ≤ l.length + (nw ++ [(p.1, y)]).length) := fun y n' e hb he => by
      have h5 := putL_len (apl i l nw) (i, p.1.2) y
      rw [hlk, hhd] at h5
      have e2 : (nw ++ [(p.1, y)]).length = nw.length + 1 := by simp
      rw [e2, apl_snoc, take_snoc hp]
      refine ⟨hkn, hnew.snoc e, ?_, fun q hq => ?_, ?_⟩
      · rw [he, hnn]; exact h5.symm
      · rcases List.mem_append.1 hq with hq | hq
        · exact hnb q hq
        · simp only [List.mem_cons, List.not_mem_nil, or_false] at hq
          subst hq; exact hb
      · dsimp only at h5 ⊢
        (repeat' split at h5) <;> omega
    cases hd
    · repeat' (first | (refine TL.isOp ?_; first | (refine TL.isCall ?_; refine TL.call rfl rfl ?_; first | (refine (zmulAdd_ok _ ⟨xn, ⟨xA, xk, xc, xl⟩⟩ p.2 (at0 l (i, p.1.2)) (Fr.gi hF (by repeat (first | exact memH | apply memT))) (Fr.gv (l := l) hF (by repeat (first | exact memH | apply memT)) p hpl.1).1.g (gv_at (Fr.gv (l := l) hF (by repeat (first | exact memH | apply memT))) (i, p.1.2)).1 (by dsimp only; omega) (Nat.le_trans (Fr.gv (l := l) hF (by repeat (first | exact memH | apply memT)) p hpl.1).2 (by decide)) (Nat.le_trans (gv_at (Fr.gv (l := l) hF (by repeat (first | exact memH | apply memT))) (i, p.1.2)).2 (by decide))).mono ?_; rintro _ wy ⟨y, rfl, hy, hE, hyn⟩; have hyn2 : y.m.n ≤ 1099511627776 := (by have a1 := (Fr.gv (l := l) hF (by repeat (first | exact memH | apply memT)) p hpl.1).2; have a2 := (gv_at (Fr.gv (l := l) hF (by repeat (first | exact memH | apply memT))) (i, p.1.2)).2; dsimp only at hyn; omega); have hyv := hy.val; rw [hkv] at hyv; replace hF := Fr.addLI (hF.exts hE) (hy.val.symm ▸ hy); clear hE hy hyn; refine Back.mk ?_) | (refine (zsign_ok _ y (Fr.li hF (x := y) (z := ival y) (by repeat (first | exact memH | apply memT))).g hyn2).mono ?_; rintro _ wy ⟨rfl, hE⟩; replace hF := hF.exts hE; clear hE; refine Back.mk ?_) | (by_cases hbig : bigZ (ival y); refine (long_t _ y (Fr.li hF (x := y) (z := ival y) (by repeat (first | exact memH | apply memT))).g hyn2 hbig).mono ?_; rintro _ wy ⟨rfl, hE⟩; replace hF := hF.exts hE; clear hE; refine Back.mk ?_; rotate_left 1; refine (long_f _ y (Fr.li hF (x := y) (z := ival y) (by repeat (first | exact memH | apply memT))).g hyn2 hbig).mono ?_; rintro _ wy ⟨rfl, hE⟩; replace hF := hF.exts hE; clear hE; refine Back.mk ?_)) | (refine TL.isBin ?_; refine TL.cmpG rfl rfl rfl rfl (fun hc => ?_) (fun hc => ?_) <;> (try (first | (exfalso; omega) | exact absurd rfl hc))) | (apply TL.ev; (case hd => rfl); (case h => (first | exact ev_simple rfl | (apply Ev.isBin; first | exact ev_arN rfl rfl rfl (by omega) | exact ev_arI rfl rfl rfl (by omega)) | (apply Ev.isLoad; first | exact ev_loadAFr hF rfl (by refine ⟨?_, ?_⟩; (focus (repeat (first | exact InV.head | apply InV.tail))); rfl) | exact ev_loadMc [.int .i64 p.1.1, .int .i64 p.1.2, .bool p.2.neg, .slice p.2.m.A p.2.m.n p.2.m.c] rfl (pb_sm hF (by repeat (first | exact InV.head | apply InV.tail)) hll hbc) hget rfl | exact ev_loadMS rfl (pb_sm hF (by repeat (first | exact InV.head | apply InV.tail)) (hsl y) hbc) (hget2 y) rfl) | exact ev_fieldAddr rfl | exact ev_mlookOkI hF (l := l) (y := (i, p.1.2)) rfl rfl (by repeat (first | exact memH | apply memT)) hhd | exact ev_indexM rfl rfl hkn (.inr rfl) | exact ev_fieldAddrE rfl rfl))) | (refine TL.storeAFr hF rfl rfl rfl rfl (by refine ⟨?_, ?_⟩; (focus (repeat (first | apply SetV.head | apply SetV.tail))); rfl) rfl ?_; clear hF; intro ws hF) | (refine TL.allocFr hF (d := 12) rfl rfl ?_; clear hF; intro w12 b12 hF) | (refine TL.allocFr hF (d := 13) rfl rfl ?_; clear hF; intro w13 b13 hF) | (refine TL.storePl hF (l := ls) (p := p) y rfl rfl hget hbo (by repeat (first | exact SetV.head | apply SetV.tail)) ?_; clear hF; intro ws hF)) | (refine TF.is ?_; first | refine TF.nil ?_ | refine TF.e rfl ?_ | refine TF.alt ?_ ?_ | (refine TF.pick rfl ?_; first | (apply TFo.ev; (case hd => rfl); (case h => (intro wh hF; first | exact ev_simple rfl | (apply Ev.isLoad; first | exact ev_loadFr hF rfl (by refine ⟨?_, ?_⟩; (focus (repeat (first | exact InV.head | apply InV.tail))); rfl) | exact ev_loadCb hF rfl (by repeat (first | exact memH | apply memT)) rfl) | exact ev_fieldAddr rfl | exact ev_buildX rfl rfl | exact ev_nilCheck rfl))))) | (refine T.is ?_; first | refine T.seq ?_ | refine T.region ?_ | refine T.block ?_ | refine T.cond_t rfl ?_ | refine T.cond_f rfl ?_ | refine T.ret ?_ | refine T.skip ?_ | (refine T.regionFr hF 7 15 (.s 0 (.s 1 (.s 2 (.s 3 (.s 4 (.s 5 (.s 6 (.s 7 (.alt (.e 8 (.s 9 (.s 10 (.s 11 (.e 12 (.e 13 (.s 14 .nil))))))) (.e 12 (.e 8 (.s 9 (.s 10 (.s 11 (.e 13 (.s 14 .nil)))))))))))))))) mixed (by kernel_rfl) ?_; clear hF; intro wr hF)) | (refine G.is ?_; first | refine G.next ?_ | refine G.blockN ?_ | refine G.blockR ?_ | refine G.thenR ?_ | refine G.only ?_ | refine G.tree rfl (by first | exact hF | exact hF.weak (List.sublist_append_right _ _) (by repeat (first | exact allR | apply allT)) | exact hF.weak (by repeat (first | exact List.Sublist.refl _ | apply List.Sublist.cons)) (by repeat (first | exact allR | apply allT)) | exact hF.weak (by repeat (first | exact List.Sublist.refl _ | apply List.Sublist.cons)) (by repeat (first | exact allN | refine allH (by repeat (first | exact memH | apply memT)) ?_))) ?_) | refine TL.nil ?_)
      all_goals first
      | exact G.ret1 rfl rfl ⟨5, l, ⟨rfl, hF.exs, hF.gr (by repeat (first | exact memH | apply memT)) (by repeat (first | exact memH | apply memT)) (by repeat (first | exact memH | apply memT))⟩, .inl ⟨rfl, rfl, .inl ⟨(i, p.1.2), (hrz y hyv).symm ▸ hbig⟩⟩⟩
      | (have hs0 : ival y ≠ 0 := fun e => hc (show sig (ival y) = 0 from e.symm ▸ rfl)
         have hnx := hnext y (n + 1) hyv hbig (by simp only [if_true, Bool.false_eq_true, if_false]; rw [if_pos hs0] <;> omega)
         have hF2 := (Fr.gvSnoc hF (lo := nw) (q := p.1) (by repeat (first | exact memH | apply memT)) (Fr.li hF (x := y) (z := ival y) (by repeat (first | exact memH | apply memT))) (few_of (Fr.li hF (x := y) (z := ival y) (by repeat (first | exact memH | apply memT))) hbig))
         rw [hset] at hF2
         refine G.again (nw ++ [(p.1, y)], n + 1) ?_ ⟨hnx, hF2.weak (.cons _ (.cons _ (.refl _))) (allH (by repeat (first | exact memH | apply memT)) (allH (by repeat (first | exact memH | apply memT)) (allH (by repeat (first | exact memH | apply memT)) (allH (by repeat (first | exact memH | apply memT)) (allH (by repeat (first | exact memH | apply memT)) allN)))))⟩ (by simp only [List.length_append, List.length_cons, List.length_nil]; omega)
         dsimp only
         rw [List.length_append]
         exact (by repeat (first | exact Sub.nil _ | refine Sub.cons rfl ?_ | refine Sub.cons' rfl (int_congr (by omega)) ?_)))
      | (have hs0 : ival y = 0 := sig_zero hc
         have hnx := hnext y (n) hyv hbig (by simp only [if_true, Bool.false_eq_true, if_false]; rw [if_neg (fun h => h hs0)] <;> omega)
         have hF2 := (Fr.gvSnoc hF (lo := nw) (q := p.1) (by repeat (first | exact memH | apply memT)) (Fr.li hF (x := y) (z := ival y) (by repeat (first | exact memH | apply memT))) (few_of (Fr.li hF (x := y) (z := ival y) (by repeat (first | exact memH | apply memT))) hbig))
         rw [hset] at hF2
         refine G.again (nw ++ [(p.1, y)], n) ?_ ⟨hnx, hF2.weak (.cons _ (.cons _ (.refl _))) (allH (by repeat (first | exact memH | apply memT)) (allH (by repeat (first | exact memH | apply memT)) (allH (by repeat (first | exact memH | apply memT)) (allH (by repeat (first | exact memH | apply memT)) (allH (by repeat (first | exact memH | apply memT)) allN)))))⟩ (by simp only [List.length_append, List.length_cons, List.length_nil]; omega)
         dsimp only
         rw [List.length_append]
         exact (by repeat (first | exact Sub.nil _ | refine Sub.cons rfl ?_ | refine Sub.cons' rfl (int_congr (by omega)) ?_)))
    · repeat' (first | (refine TL.isOp ?_; first | (refine TL.isCall ?_; refine TL.call rfl rfl ?_; first | (refine (zmulAdd_ok _ ⟨xn, ⟨xA, xk, xc, xl⟩⟩ p.2 (at0 l (i, p.1.2)) (Fr.gi hF (by repeat (first | exact memH | apply memT))) (Fr.gv (l := l) hF (by repeat (first | exact memH | apply memT)) p hpl.1).1.g (gv_at (Fr.gv (l := l) hF (by repeat (first | exact memH | apply memT))) (i, p.1.2)).1 (by dsimp only; omega) (Nat.le_trans (Fr.gv (l := l) hF (by repeat (first | exact memH | apply memT)) p hpl.1).2 (by decide)) (Nat.le_trans (gv_at (Fr.gv (l := l) hF (by repeat (first | exact memH | apply memT))) (i, p.1.2)).2 (by decide))).mono ?_; rintro _ wy ⟨y, rfl, hy, hE, hyn⟩; have hyn2 : y.m.n ≤ 1099511627776 := (by have a1 := (Fr.gv (l := l) hF (by repeat (first | exact memH | apply memT)) p hpl.1).2; have a2 := (gv_at (Fr.gv (l := l) hF (by repeat (first | exact memH | apply memT))) (i, p.1.2)).2; dsimp only at hyn; omega); have hyv := hy.val; rw [hkv] at hyv; replace hF := Fr.addLI (hF.exts hE) (hy.val.symm ▸ hy); clear hE hy hyn; refine Back.mk ?_) | (refine (zsign_ok _ y (Fr.li hF (x := y) (z := ival y) (by repeat (first | exact memH | apply memT))).g hyn2).mono ?_; rintro _ wy ⟨rfl, hE⟩; replace hF := hF.exts hE; clear hE; refine Back.mk ?_) | (by_cases hbig : bigZ (ival y); refine (long_t _ y (Fr.li hF (x := y) (z := ival y) (by repeat (first | exact memH | apply memT))).g hyn2 hbig).mono ?_; rintro _ wy ⟨rfl, hE⟩; replace hF := hF.exts hE; clear hE; refine Back.mk ?_; rotate_left 1; refine (long_f _ y (Fr.li hF (x := y) (z := ival y) (by repeat (first | exact memH | apply memT))).g hyn2 hbig).mono ?_; rintro _ wy ⟨rfl, hE⟩; replace hF := hF.exts hE; clear hE; refine Back.mk ?_)) | (refine TL.isBin ?_; refine TL.cmpG rfl rfl rfl rfl (fun hc => ?_) (fun hc => ?_) <;> (try (first | (exfalso; omega) | exact absurd rfl hc))) | (apply TL.ev; (case hd => rfl); (case h => (first | exact ev_simple rfl | (apply Ev.isBin; first | exact ev_arN rfl rfl rfl (by omega) | exact ev_arI rfl rfl rfl (by omega)) | (apply Ev.isLoad; first | exact ev_loadAFr hF rfl (by refine ⟨?_, ?_⟩; (focus (repeat (first | exact InV.head | apply InV.tail))); rfl) | exact ev_loadMc [.int .i64 p.1.1, .int .i64 p.1.2, .bool p.2.neg, .slice p.2.m.A p.2.m.n p.2.m.c] rfl (pb_sm hF (by repeat (first | exact InV.head | apply InV.tail)) hll hbc) hget rfl | exact ev_loadMS rfl (pb_sm hF (by repeat (first | exact InV.head | apply InV.tail)) (hsl y) hbc) (hget2 y) rfl) | exact ev_fieldAddr rfl | exact ev_mlookOkI hF (l := l) (y := (i, p.1.2)) rfl rfl (by repeat (first | exact memH | apply memT)) hhd | exact ev_indexM rfl rfl hkn (.inr rfl) | exact ev_fieldAddrE rfl rfl))) | (refine TL.storeAFr hF rfl rfl rfl rfl (by refine ⟨?_, ?_⟩; (focus (repeat (first | apply SetV.head | apply SetV.tail))); rfl) rfl ?_; clear hF; intro ws hF) | (refine TL.allocFr hF (d := 12) rfl rfl ?_; clear hF; intro w12 b12 hF) | (refine TL.allocFr hF (d := 13) rfl rfl ?_; clear hF; intro w13 b13 hF) | (refine TL.storePl hF (l := ls) (p := p) y rfl rfl hget hbo (by repeat (first | exact SetV.head | apply SetV.tail)) ?_; clear hF; intro ws hF)) | (refine TF.is ?_; first | refine TF.nil ?_ | refine TF.e rfl ?_ | refine TF.alt ?_ ?_ | (refine TF.pick rfl ?_; first | (apply TFo.ev; (case hd => rfl); (case h => (intro wh hF; first | exact ev_simple rfl | (apply Ev.isLoad; first | exact ev_loadFr hF rfl (by refine ⟨?_, ?_⟩; (focus (repeat (first | exact InV.head | apply InV.tail))); rfl) | exact ev_loadCb hF rfl (by repeat (first | exact memH | apply memT)) rfl) | exact ev_fieldAddr rfl | exact ev_buildX rfl rfl | exact ev_nilCheck rfl))))) | (refine T.is ?_; first | refine T.seq ?_ | refine T.region ?_ | refine T.block ?_ | refine T.cond_t rfl ?_ | refine T.cond_f rfl ?_ | refine T.ret ?_ | refine T.skip ?_ | (refine T.regionFr hF 7 15 (.s 0 (.s 1 (.s 2 (.s 3 (.s 4 (.s 5 (.s 6 (.s 7 (.alt (.e 8 (.s 9 (.s 10 (.s 11 (.e 12 (.e 13 (.s 14 .nil))))))) (.e 12 (.e 8 (.s 9 (.s 10 (.s 11 (.e 13 (.s 14 .nil)))))))))))))))) mixed (by kernel_rfl) ?_; clear hF; intro wr hF)) | (refine G.is ?_; first | refine G.next ?_ | refine G.blockN ?_ | refine G.blockR ?_ | refine G.thenR ?_ | refine G.only ?_ | refine G.tree rfl (by first | exact hF | exact hF.weak (List.sublist_append_right _ _) (by repeat (first | exact allR | apply allT)) | exact hF.weak (by repeat (first | exact List.Sublist.refl _ | apply List.Sublist.cons)) (by repeat (first | exact allR | apply allT)) | exact hF.weak (by repeat (first | exact List.Sublist.refl _ | apply List.Sublist.cons)) (by repeat (first | exact allN | refine allH (by repeat (first | exact memH | apply memT)) ?_))) ?_) | refine TL.nil ?_)
      all_goals first
      | exact G.ret1 rfl rfl ⟨5, l, ⟨rfl, hF.exs, hF.gr (by repeat (first | exact memH | apply memT)) (by repeat (first | exact memH | apply memT)) (by repeat (first | exact memH | apply memT))⟩, .inl ⟨rfl, rfl, .inl ⟨(i, p.1.2), (hrz y hyv).symm ▸ hbig⟩⟩⟩
      | (have hs0 : ival y ≠ 0 := fun e => hc (show sig (ival y) = 0 from e.symm ▸ rfl)
         have hnx := hnext y (n - 1 + 1) hyv hbig (by simp only [if_true, Bool.false_eq_true, if_false]; rw [if_pos hs0] <;> omega)
         have hF2 := (Fr.gvSnoc hF (lo := nw) (q := p.1) (by repeat (first | exact memH | apply memT)) (Fr.li hF (x := y) (z := ival y) (by repeat (first | exact memH | apply memT))) (few_of (Fr.li hF (x := y) (z := ival y) (by repeat (first | exact memH | apply memT))) hbig))
         rw [hset] at hF2
         refine G.again (nw ++ [(p.1, y)], n - 1 + 1) ?_ ⟨hnx, hF2.weak (.cons _ (.cons _ (.refl _))) (allH (by repeat (first | exact memH | apply memT)) (allH (by repeat (first | exact memH | apply memT)) (allH (by repeat (first | exact memH | apply memT)) (allH (by repeat (first | exact memH | apply memT)) (allH (by repeat (first | exact memH | apply memT)) allN)))))⟩ (by simp only [List.length_append, List.length_cons, List.length_nil]; omega)
         dsimp only
         rw [List.length_append]
         exact (by repeat (first | exact Sub.nil _ | refine Sub.cons rfl ?_ | refine Sub.cons' rfl (int_congr (by omega)) ?_)))
      | (have hs0 : ival y = 0 := sig_zero hc
         have hnx := hnext y (n - 1) hyv hbig (by simp only [if_true, Bool.false_eq_true, if_false]; rw [if_neg (fun h => h hs0)] <;> omega)
         have hF2 := (Fr.gvSnoc hF (lo := nw) (q := p.1) (by repeat (first | exact memH | apply memT)) (Fr.li hF (x := y) (z := ival y) (by repeat (first | exact memH | apply memT))) (few_of (Fr.li hF (x := y) (z := ival y) (by repeat (first | exact memH | apply memT))) hbig))
         rw [hset] at hF2
         refine G.again (nw ++ [(p.1, y)], n - 1) ?_ ⟨hnx, hF2.weak (.cons _ (.cons _ (.refl _))) (allH (by repeat (first | exact memH | apply memT)) (allH (by repeat (first | exact memH | apply memT)) (allH (by repeat (first | exact memH | apply memT)) (allH (by repeat (first | exact memH | apply memT)) (allH (by repeat (first | exact memH | apply memT)) allN)))))⟩ (by simp only [List.length_append, List.length_cons, List.length_nil]; omega)
         dsimp only
         rw [List.length_append]
         exact (by repeat (first | exact Sub.nil _ | refine Sub.cons rfl ?_ | refine Sub.cons' rfl (int_congr (by omega)) ?_)))
  · have hkl : nw.length = l'.length := Nat.le_antisymm hk hkn
    rw [List.take_of_length_le hkn] at hnew
    rw [List.drop_of_length_le hkn, List.append_nil] at hF
    have hF1 := Fr.lvSm hF (hpb.len hkl)
    clear hF
    have hF := hF1
    clear hF1
    rw [hkl] at hF
    have hspec := fun k => hnew.zv hn hpm k
    repeat' (first | (refine TL.isOp ?_; first | (refine TL.isBin ?_; refine TL.cmpG rfl rfl rfl rfl (fun hc => ?_) (fun hc => ?_) <;> (try (first | (exfalso; omega) | exact absurd rfl hc))) | (apply TL.ev; (case hd => rfl); (case h => (first | exact ev_simple rfl | exact ev_len rfl)))) | (refine T.is ?_; first | refine T.seq ?_ | refine T.region ?_ | refine T.block ?_ | refine T.cond_t rfl ?_ | refine T.cond_f rfl ?_ | refine T.exit ?_ | refine T.ret ?_ | refine T.skip ?_) | (refine G.is ?_; first | refine G.next ?_ | refine G.blockE ?_ | refine G.thenE ?_ | refine G.thenR ?_) | refine TL.nil ?_)
    · exact G.ret1 rfl rfl ⟨5, l, ⟨rfl, hF.exs, hF.gr (by repeat (first | exact memH | apply memT)) (by repeat (first | exact memH | apply memT)) (by repeat (first | exact memH | apply memT))⟩, .inl ⟨rfl, rfl, .inr ⟨apl i l nw, apl_NZ i hz nw, apl_nodup i hn nw, hspec, by omega⟩⟩⟩
    refine T.loop (α := Nat) (fun k => [(0, .pointer (some ⟨g, 0, none⟩)), (1, .int .i64 i), (94, .slice (slA pb) l'.length (slC pb)), (95, .int .i64 (l'.length : Int)), (96, .int .i64 (k : Int))])
      (fun k w' => k ≤ l'.length ∧ Fr w w' [] [dpMp spot ivA m (apl i l (nw.take k)), dpSmG 4 plc (slA pb) l'.length (slC pb) nw, dpCb g 84 (grc r c m), dpGv l, dpGv nw] (fun k => k = m)) (fun k => l'.length - k) 0 (by repeat (first | exact Sub.nil _ | refine Sub.cons rfl ?_ | refine Sub.cons' rfl (int_congr (by omega)) ?_)) ⟨Nat.zero_le _, hF.weak (List.nil_sublist _) (allH (by repeat (first | exact memH | apply memT)) (allH (by repeat (first | exact memH | apply memT)) (allH (by repeat (first | exact memH | apply memT)) (allH (by repeat (first | exact memH | apply memT)) (allH (by repeat (first | exact memH | apply memT)) allN)))))⟩ ?_
    clear hF
    rintro k w2 ⟨hk2, hF⟩
    rcases Nat.lt_or_ge k l'.length with hkn2 | hkn2
    · obtain ⟨p, hp⟩ : ∃ p, nw[k]? = some p := ⟨_, List.getElem?_eq_getElem (by omega)⟩
      repeat' (first | (refine TL.isOp ?_; first | (refine TL.isCall ?_; refine TL.call rfl rfl ?_; first | (refine (gput_ok _ g m r c (apl i l (nw.take k)) (i, p.1.2) p.2 (ival p.2) (hF.grA (by repeat (first | exact memH | apply memT)) (by repeat (first | exact memH | apply memT)) (by repeat (first | exact memH | apply memT)) (nw := nw) (by repeat (first | exact memH | apply memT)) fun q hq => List.mem_of_mem_take hq) (Fr.gv (l := nw) hF (by repeat (first | exact memH | apply memT)) p (List.mem_of_getElem? hp)).1 (Fr.gv (l := nw) hF (by repeat (first | exact memH | apply memT)) p (List.mem_of_getElem? hp)).2).mono ?_; rintro _ wy ⟨rfl, hE, hGp⟩; replace hF := Fr.callMp hF hE (.inr rfl) (nfC (nf_smG (hF.sm_mp (by repeat (first | exact memH | apply memT)) (by repeat (first | exact memH | apply memT)))) (nfC (nf_cb hgm) (nfC nf_gv (nfC nf_gv nfN)))) hGp.mp; clear hE hGp; refine Back.mk ?_)) | (refine TL.isBin ?_; refine TL.cmpG rfl rfl rfl rfl (fun hc => ?_) (fun hc => ?_) <;> (try (first | (exfalso; omega) | exact absurd rfl hc))) | (apply TL.ev; (case hd => rfl); (case h => (first | exact ev_simple rfl | (apply Ev.isBin; first | exact ev_arN rfl rfl rfl (by omega)) | (apply Ev.isLoad; first | exact ev_loadFr hF rfl (by refine ⟨?_, ?_⟩; (focus (repeat (first | exact InV.head | apply InV.tail))); rfl) | exact ev_loadAFr hF rfl (by refine ⟨?_, ?_⟩; (focus (repeat (first | exact InV.head | apply InV.tail))); rfl) | exact ev_loadMc [.int .i64 p.1.1, .int .i64 p.1.2, .bool p.2.neg, .slice p.2.m.A p.2.m.n p.2.m.c] rfl (Fr.smG hF (l := nw) (by repeat (first | exact memH | apply memT))) hp rfl) | exact ev_fieldAddr rfl | exact ev_buildX rfl rfl | exact ev_indexM rfl rfl hkn2 (Fr.smG hF (l := nw) (by repeat (first | exact memH | apply memT))).some))) | (refine TL.storeAFr hF rfl rfl rfl rfl (by refine ⟨?_, ?_⟩; (focus (repeat (first | apply SetV.head | apply SetV.tail))); rfl) rfl ?_; clear hF; intro ws hF) | (refine TL.allocFr hF (d := 16) rfl rfl ?_; clear hF; intro w16 b16 hF)) | (refine T.is ?_; first | refine T.seq ?_ | refine T.region ?_ | refine T.block ?_ | refine T.cond_t rfl ?_ | refine T.skip ?_) | (refine G.is ?_; first | refine G.next ?_ | refine G.blockN ?_) | refine TL.nil ?_)
      refine G.again (k + 1) (by repeat (first | exact Sub.nil _ | refine Sub.cons rfl ?_ | refine Sub.cons' rfl (int_congr (by omega)) ?_)) ⟨hkn2, ?_⟩ (by omega)
      rw [take_snoc hp, apl_snoc]
      exact hF.weak (List.nil_sublist _) allR
    · rw [List.take_of_length_le (by omega)] at hF
      repeat' (first | (refine TL.isOp ?_; first | (refine TL.isBin ?_; refine TL.cmpG rfl rfl rfl rfl (fun hc => ?_) (fun hc => ?_) <;> (try (first | (exfalso; omega) | exact absurd rfl hc))) | (apply TL.ev; (case hd => rfl); (case h => (first | exact ev_simple rfl)))) | (refine T.is ?_; first | refine T.seq ?_ | refine T.region ?_ | refine T.cond_f rfl ?_ | refine T.exit ?_ | refine T.ret ?_) | (refine G.is ?_; first | refine G.next ?_ | refine G.blockE ?_ | refine G.thenE ?_) | refine TL.nil ?_)
      have hGe := hF.grA (i := i) (l := l) (nw' := nw) (by repeat (first | exact memH | apply memT)) (by repeat (first | exact memH | apply memT)) (by repeat (first | exact memH | apply memT)) (nw := nw) (by repeat (first | exact memH | apply memT)) fun q hq => hq
      exact G.ret1 rfl rfl ⟨0, apl i l nw, ⟨rfl, hF.exs, hGe⟩, .inr ⟨rfl, apl_NZ i hz nw, by omega, hspec, fun k => by rw [← hspec]; exact gv_small hGe.vals k⟩⟩
end Go.Proofs.YtlpheckjogphmaaGreat
set_option linter.unusedSectionVars false
namespace Go.Eng
open Go Go.Proofs Go.NatM Go.RowKit
structure Gx (w w' : World) : Prop where
  ext : Ext w w'
  drawn : w.drawn ≤ w'.drawn
theorem Gx.refl (w : World) : Gx w w := ⟨Ext.refl w, Nat.le_refl _⟩
theorem Gx.trans {a b c : World} (h : Gx a b) (k : Gx b c) : Gx a c := ⟨h.ext.trans k.ext, Nat.le_trans h.drawn k.drawn⟩
theorem Gx.alloc (w : World) (o : Obj) : Gx w (w.alloc o) := ⟨ext_alloc w o, Nat.le_refl _⟩
theorem Gx.drewN (w : World) (n : Nat) : Gx w (w.drewN n) := ⟨ext_drewN w n, Nat.le_add_right _ _⟩
theorem Gx.grow {w w' : World} (h : Gx w w') : ∃ q os', w' = Go.Sort.grow (w.drewN q) os' := by
  refine ⟨w'.drawn - w.drawn, w'.heap.extract w.heap.size w'.heap.size, ?_⟩
  obtain ⟨⟨h1, h2, h3, h4, h5⟩, h6⟩ := h
  obtain ⟨hp, tp, dr, os, out⟩ := w'
  simp only at h1 h2 h3 h4 h5 h6
  unfold Go.Sort.grow World.drewN
  simp only [World.mk.injEq]
  refine ⟨?_, h2, by omega, h1, h3⟩
  apply Array.ext_getElem?
  intro k
  rw [Array.getElem?_append]
  by_cases hk : k < w.heap.size
  · rw [if_pos hk, h5 k hk]
  · rw [if_neg hk, Array.getElem?_extract]
    split
    · congr 1; omega
    · rename_i hn
      rw [Array.getElem?_eq_none]; omega
section
variable {P : Program} {N : Fm} {Q : Exit → Act → World → Prop} {σ : Store} {w : World} {ops : Array Oper} {d : Nat} {t : TypeId} {pos : String} {af : Array Edge} {rest : List Oper}
theorem TL.boxAX {x : Operand} {ty : TypeId} {cs : List Value} (hx : look σ x = some (.agg cs.toArray)) (hd : Nat.blt d N.n = true)
    (K : ∀ w' b, Vr w'.heap b ty cs → Gx w w' → TL P N .seq ops Q rest ((d, .pointer (some ⟨b, 0, none⟩)) :: σ) w') :
    TL P N .seq ops Q (⟨some d, .box ty x, t, pos, af, none⟩ :: rest) σ w := by
  refine TL.op (w' := w.alloc (.cells cs.toArray ty)) (fun ρ hρ => ?_) hd (K _ w.heap.size (by unfold Vr; rw [heap_alloc]) (Gx.alloc ..))
  simp [execOp, hρ x _ hx, Instr.box, newVar, newRow, Value.cells]
theorem TL.build2X {x y : Operand} {ty e : TypeId} [hT : USlice P ty e] {b1 : Nat} [hS : USize P e (.int .i64 0) 1 b1] {u v : Int} (hx : look σ x = some (.int .i64 u)) (hy : look σ y = some (.int .i64 v)) (hd : Nat.blt d N.n = true)
    (K : ∀ w' b, Sl i64v w'.heap w'.heap.size (some ⟨b, 0, none⟩) 2 2 [u, v] → Gx w w' → TL P N .seq ops Q rest ((d, .slice (some ⟨b, 0, none⟩) 2 2) :: σ) w') :
    TL P N .seq ops Q (⟨some d, .buildSlice ty 2 #[(0, x), (1, y)], t, pos, af, none⟩ :: rest) σ w := by
  have hB : Bk i64v (w.alloc (.cells #[i64v u, i64v v] e)).heap w.heap.size e [u, v] := by unfold Bk; rw [heap_alloc]; rfl
  refine TL.op (w' := w.alloc (.cells #[i64v u, i64v v] e)) (fun ρ hρ => ?_) hd (K _ _ ((hB.slN (n := 2) (c := 2) rfl (Nat.le_refl _) hB.lt).size) (Gx.alloc ..))
  have := run_build (w := w) hT hS (z := .int .i64 0) rfl [i64v u, i64v v] #[(0, i64v u), (1, i64v v)] (by simp [Instr.fill, i64v, Value.cells]; rfl) (by simp)
  simp only [List.length_cons, List.length_nil, Nat.zero_add, Nat.reduceAdd] at this
  simp only [i64v] at this
  simp [execOp, hρ x _ hx, hρ y _ hy, this, i64v]
end
end Go.Eng
namespace Go.Proofs.YtlpheckjogphmaaGreat
open Go Go.Eng Go.Proofs Go.NatM Go.RowKit
def cmpI (a b : Int) : Int := if a < b then -1 else if b < a then 1 else 0
theorem isNaN_ok (w : World) (a : Int) : Cl Tryz.prog 71 #[.int .i64 a] w (fun e w' => e = .returned (.bool false) ∧ w' = w) := by
  refine enter Tryz.func71 rfl rfl rfl ?_
  repeat' (first | refine TL.ev (ev_simple rfl) rfl ?_ | (refine TL.cmpG rfl rfl rfl rfl (fun hc => ?_) (fun hc => ?_) <;> try first | (exfalso; omega) | exact absurd rfl hc) | refine T.seq ?_ | refine T.region ?_ | refine TL.nil ?_ | refine T.ret ?_ | refine G.next ?_)
  all_goals exact G.ret1 rfl rfl ⟨rfl, rfl⟩
theorem compare_ok (w : World) (a b : Int) : Cl Tryz.prog 49 #[.int .i64 a, .int .i64 b] w (fun e w' => e = .returned (.int .i64 (cmpI a b)) ∧ w' = w) := by
  refine enter Tryz.func49 rfl rfl rfl ?_
  repeat' (first | refine TL.ev (ev_simple rfl) rfl ?_ | (refine TL.call rfl rfl ?_; first | (refine (isNaN_ok _ _).mono ?_; rintro _ _ ⟨rfl, rfl⟩; refine Back.mk ?_)) | (refine TL.cmpG rfl rfl rfl rfl (fun hc => ?_) (fun hc => ?_) <;> try (exfalso; omega)) | refine T.seq ?_ | refine T.region ?_ | refine TL.nil ?_ | refine T.cond_t rfl ?_ | refine T.cond_f rfl ?_ | refine T.ret ?_ | refine T.skip ?_ | refine G.next ?_ | refine G.thenR ?_)
  all_goals
    refine G.ret1 rfl rfl ⟨?_, rfl⟩
    unfold cmpI
    first
    | rw [if_pos (by omega)]
    | rw [if_neg (by omega), if_pos (by omega)]
    | rw [if_neg (by omega), if_neg (by omega)]
def orI (u v : Int) : Int := if u ≠ 0 then u else v
theorem or_ok (w : World) (A : Option Addr) (u v : Int) (hs : Sl i64v w.heap w.heap.size A 2 2 [u, v]) : Cl Tryz.prog 48 #[.slice A 2 2] w (fun e w' => e = .returned (.int .i64 (orI u v)) ∧ w' = w) := by
  refine enter Tryz.func48 rfl rfl rfl ?_
  repeat' (first | refine TL.ev (ev_simple rfl) rfl ?_ | refine TL.ev (ev_len rfl) rfl ?_ | refine T.seq ?_ | refine T.region ?_ | refine TL.nil ?_ | refine T.block ?_ | refine G.next ?_)
  refine T.loop (α := Nat) (fun k => [(0, .slice A 2 2), (3, .int .i64 0), (6, .slice A 2 2), (7, .int .i64 2), (8, .int .i64 (k : Int))]) (fun k w' => w' = w ∧ k ≤ 2 ∧ (1 ≤ k → u = 0) ∧ (2 ≤ k → v = 0)) (fun k => 2 - k) 0 (by repeat (first | exact Sub.nil _ | refine Sub.cons rfl ?_ | refine Sub.cons' rfl (int_congr (by omega)) ?_)) ⟨rfl, by omega, fun h => by omega, fun h => by omega⟩ ?_
  rintro k w1 ⟨rfl, hk, h1, h2⟩
  obtain rfl | rfl | rfl : k = 0 ∨ k = 1 ∨ k = 2 := by omega
  · repeat' (first | refine TL.ev (ev_simple rfl) rfl ?_ | (refine TL.cmpG rfl rfl rfl rfl (fun hc => ?_) (fun hc => ?_) <;> try (exfalso; omega)) | refine TL.ev (ev_arN rfl rfl rfl (by omega)) rfl ?_ | refine TL.ev (ev_indexN rfl rfl (by omega) (by first | exact Or.inr rfl | exact Sl.some (by assumption))) rfl ?_ | refine TL.ev (ev_loadI rfl (by assumption) (by omega)) rfl ?_ | refine T.seq ?_ | refine T.region ?_ | refine TL.nil ?_ | refine T.block ?_ | refine T.cond_t rfl ?_ | refine T.cond_f rfl ?_ | refine T.ret ?_ | refine T.skip ?_ | refine G.next ?_ | refine G.blockN ?_ | refine G.blockR ?_ | refine G.thenR ?_)
    · exact G.ret1 rfl rfl ⟨by unfold orI; rw [if_pos (show u ≠ 0 from hc)]; rfl, rfl⟩
    · have e : u = 0 := Classical.not_not.1 (show ¬ u ≠ 0 from hc)
      exact G.again 1 (by repeat (first | exact Sub.nil _ | refine Sub.cons rfl ?_ | refine Sub.cons' rfl (int_congr (by omega)) ?_)) ⟨rfl, by omega, fun _ => e, fun h => by omega⟩ (by omega)
  · repeat' (first | refine TL.ev (ev_simple rfl) rfl ?_ | (refine TL.cmpG rfl rfl rfl rfl (fun hc => ?_) (fun hc => ?_) <;> try (exfalso; omega)) | refine TL.ev (ev_arN rfl rfl rfl (by omega)) rfl ?_ | refine TL.ev (ev_indexN rfl rfl (by omega) (by first | exact Or.inr rfl | exact Sl.some (by assumption))) rfl ?_ | refine TL.ev (ev_loadI rfl (by assumption) (by omega)) rfl ?_ | refine T.seq ?_ | refine T.region ?_ | refine TL.nil ?_ | refine T.block ?_ | refine T.cond_t rfl ?_ | refine T.cond_f rfl ?_ | refine T.ret ?_ | refine T.skip ?_ | refine G.next ?_ | refine G.blockN ?_ | refine G.blockR ?_ | refine G.thenR ?_)
    · exact G.ret1 rfl rfl ⟨by unfold orI; rw [if_neg (fun h => h (h1 (Nat.le_refl _)))]; rfl, rfl⟩
    · have e : v = 0 := Classical.not_not.1 (show ¬ v ≠ 0 from hc)
      exact G.again 2 (by repeat (first | exact Sub.nil _ | refine Sub.cons rfl ?_ | refine Sub.cons' rfl (int_congr (by omega)) ?_)) ⟨rfl, by omega, fun _ => h1 (Nat.le_refl _), fun _ => e⟩ (by omega)
  · repeat' (first | refine TL.ev (ev_simple rfl) rfl ?_ | (refine TL.cmpG rfl rfl rfl rfl (fun hc => ?_) (fun hc => ?_) <;> try (exfalso; omega)) | refine T.seq ?_ | refine T.region ?_ | refine TL.nil ?_ | refine T.cond_f rfl ?_ | refine T.exit ?_ | refine T.ret ?_ | refine G.next ?_ | refine G.blockE ?_ | refine G.thenE ?_)
    exact G.ret1 rfl rfl ⟨by unfold orI; rw [if_neg (fun h => h (h1 (by omega))), h2 (Nat.le_refl _)], rfl⟩
def cmpPl (x y : (Int × Int) × IV) : Int := orI (cmpI x.1.1 y.1.1) (cmpI x.1.2 y.1.2)
theorem plcmp_ok (W : World) (x y : (Int × Int) × IV) : Cl Tryz.prog 47 #[.agg (plc x).toArray, .agg (plc y).toArray] W (fun e w' => e = .returned (.int .i64 (cmpPl x y)) ∧ Gx W w') := by
  obtain ⟨⟨x1, x2⟩, ⟨xn, ⟨xA, xk, xc, xl⟩⟩⟩ := x
  obtain ⟨⟨y1, y2⟩, ⟨yn, ⟨yA, yk, yc, yl⟩⟩⟩ := y
  refine enter Tryz.func47 rfl rfl rfl ?_
  have hG := Gx.refl W
  refine T.seq ?_
  refine T.region ?_
  refine TL.boxAX (d := 2) (cs := [.int .i64 x1, .int .i64 x2, .bool xn, .slice xA xk xc]) rfl rfl ?_
  intro w2 b2 hV2 hE
  replace hG := hG.trans hE
  clear hE
  refine TL.boxAX (d := 3) (cs := [.int .i64 y1, .int .i64 y2, .bool yn, .slice yA yk yc]) rfl rfl ?_
  intro w3 b3 hV3 hE
  replace hV2 := hV2.ext hE.ext
  replace hG := hG.trans hE
  clear hE
  refine TL.ev (ev_assign rfl) rfl ?_
  refine TL.nil ?_
  refine G.next ?_
  refine T.seq ?_
  refine T.regionF (fun w' => Gx W w' ∧ Vr w'.heap b2 57 [.int .i64 x1, .int .i64 x2, .bool xn, .slice xA xk xc] ∧ Vr w'.heap b3 57 [.int .i64 y1, .int .i64 y2, .bool yn, .slice yA yk yc]) 13 (.s 0 (.s 1 (.s 2 (.s 3 (.s 5 (.s 6 (.s 7 (.s 8 (.e 4 (.e 9 (.e 10 (.e 11 (.s 12 .nil))))))))))))) mixed (by kernel_rfl) ⟨hG.trans (Gx.drewN ..), hV2, hV3⟩ ?_
  replace hG := hG.trans (Gx.drewN w3 1)
  replace hV2 : Vr (w3.drewN 1).heap b2 57 [.int .i64 x1, .int .i64 x2, .bool xn, .slice xA xk xc] := hV2
  replace hV3 : Vr (w3.drewN 1).heap b3 57 [.int .i64 y1, .int .i64 y2, .bool yn, .slice yA yk yc] := hV3
  refine TF.s rfl (fun w' hw => ev_fieldAddr rfl) rfl ?_
  refine TF.s rfl (fun w' hw => ev_loadV rfl hw.2.1 rfl) rfl ?_
  refine TF.s rfl (fun w' hw => ev_fieldAddr rfl) rfl ?_
  refine TF.s rfl (fun w' hw => ev_loadV rfl hw.2.2 rfl) rfl ?_
  refine TF.s rfl (fun w' hw => ev_fieldAddr rfl) rfl ?_
  refine TF.s rfl (fun w' hw => ev_loadV rfl hw.2.1 rfl) rfl ?_
  refine TF.s rfl (fun w' hw => ev_fieldAddr rfl) rfl ?_
  refine TF.s rfl (fun w' hw => ev_loadV rfl hw.2.2 rfl) rfl ?_
  refine TF.e rfl ?_
  refine TL.call rfl rfl ?_
  refine (compare_ok _ _ _).mono ?_
  rintro _ _ ⟨rfl, rfl⟩
  refine Back.mk ?_
  refine TL.nil ?_
  refine G.only ?_
  refine G.tree rfl ⟨hG, hV2, hV3⟩ ?_
  refine TF.e rfl ?_
  refine TL.call rfl rfl ?_
  refine (compare_ok _ _ _).mono ?_
  rintro _ _ ⟨rfl, rfl⟩
  refine Back.mk ?_
  refine TL.nil ?_
  refine G.only ?_
  refine G.tree rfl ⟨hG, hV2, hV3⟩ ?_
  refine TF.e rfl ?_
  refine TL.build2X rfl rfl rfl ?_
  intro w4 b4 hs hE
  replace hG := hG.trans hE
  replace hV2 := hV2.ext hE.ext
  replace hV3 := hV3.ext hE.ext
  refine TL.nil ?_
  refine G.only ?_
  refine G.tree rfl ⟨hG, hV2, hV3⟩ ?_
  refine TF.e rfl ?_
  refine TL.call rfl rfl ?_
  refine (or_ok _ _ _ _ hs).mono ?_
  rintro _ _ ⟨rfl, rfl⟩
  refine Back.mk ?_
  refine TL.nil ?_
  refine G.only ?_
  refine G.tree rfl ⟨hG, hV2, hV3⟩ ?_
  refine TF.s rfl (fun w' hw => ev_assign rfl) rfl ?_
  refine TF.nil ?_
  repeat' (first | refine T.ret ?_ | refine G.next ?_)
  exact G.ret1 rfl rfl ⟨rfl, hG⟩
end Go.Proofs.YtlpheckjogphmaaGreat
set_option linter.unusedSectionVars false
namespace Go.Eng
open Go Go.Proofs Go.NatM Go.RowKit Go.Sort Go.Proofs.YtlpheckjogphmaaGreat
theorem flat_get (l : GL) (t : Nat) (ht : t < l.length * 4) : (flatK plc 4 l.toArray)[t]! = (l.flatMap plc)[t]?.getD default := by
  have h1 : t / 4 < l.length := Nat.div_lt_of_lt_mul (by omega)
  have h2 := flatMap_get (f := plc) (k := 4) (l := l) (fun _ _ => rfl) (t / 4) (t % 4) l[t / 4] (List.getElem?_eq_getElem h1) (Nat.mod_lt _ (by decide))
  rw [Nat.div_add_mod'] at h2
  rw [get_flatK _ _ _ _ (by simpa using ht), h2]
  have h3 : l.toArray[t / 4]! = l[t / 4] := by simp [h1]
  rw [h3]
  have h4 : t % 4 < (plc l[t / 4]).length := Nat.mod_lt _ (by decide)
  exact List.getElem!_eq_getElem?_getD
theorem flat_get? (l : GL) (zs : List Value) (t : Nat) (ht : t < l.length * 4) : (l.flatMap plc ++ zs)[t]? = some (flatK plc 4 l.toArray)[t]! := by
  have hl : (l.flatMap plc).length = l.length * 4 := flatMap_len fun _ _ => rfl
  rw [flat_get l t ht, List.getElem?_append_left (by omega), List.getElem?_eq_getElem (by omega)]; rfl
theorem holds_of {w : World} {b : Nat} {t : TypeId} {l : GL} {zs : List Value} (h : Vr w.heap b t (l.flatMap plc ++ zs)) : HoldsK plc 4 w b 0 l.toArray := by
  intro j hj
  rw [size_flatK] at hj
  have hj' : j < l.length * 4 := by simpa using hj
  refine ⟨?_, ?_⟩
  · rw [cell_of_hcell, Nat.zero_add, h.cell]; exact flat_get? l zs j hj'
  · unfold World.frozen?
    unfold Vr at h
    rw [h]; simp
theorem put_vr {w : World} {b n : Nat} {t : TypeId} {l : GL} {zs : List Value} {d : Array ((Int × Int) × IV)} (os : Array Obj) (h : Vr w.heap b t (l.flatMap plc ++ zs)) (hd : d.size = l.length) : Vr (sortWorldK plc 4 w b 0 n d os).heap b t (d.toList.flatMap plc ++ zs) ∧ Exs (fun k => k = b) w (sortWorldK plc 4 w b 0 n d os) := by
  have hlt := h.lt
  have hl : (l.flatMap plc).length = l.length * 4 := flatMap_len fun _ _ => rfl
  have hl2 : (d.toList.flatMap plc).length = l.length * 4 := by rw [flatMap_len (f := plc) (k := 4) fun _ _ => rfl]; simp [hd]
  have hheap : ∀ k, k < w.heap.size → (sortWorldK plc 4 w b 0 n d os).heap[k]? = (w.heap.modify b (onCells (putCells id 0 (flatK plc 4 d))))[k]? := fun k hk => by
    unfold sortWorldK grow putRowK putRow mapBlock Go.Sort.ahead
    simp only
    rw [Array.getElem?_append_left (by simpa using hk)]
  refine ⟨?_, ⟨rfl, rfl, rfl, ?_, fun k hk hne => ?_⟩⟩
  · unfold Vr at h ⊢
    rw [hheap b hlt, Array.getElem?_modify, if_pos rfl, h]
    simp only [Option.map_some, onCells, Option.some.injEq, Obj.cells.injEq, and_true]
    apply Array.ext_getElem?
    intro k
    simp only [putCells, Array.getElem?_mapIdx, List.getElem?_toArray, size_flatK, Nat.zero_add, Nat.sub_zero, Nat.zero_le, true_and, id]
    by_cases hk : k < l.length * 4
    · have e1 := flat_get? d.toList zs k (by simp [hd]; omega)
      simp only [Array.toArray_toList] at e1
      rw [e1, List.getElem?_append_left (by omega), List.getElem?_eq_getElem (by omega)]
      simp [hd, hk]
    · rw [List.getElem?_append_right (by omega), List.getElem?_append_right (by omega), hl, hl2]
      cases zs[k - l.length * 4]? with
      | none => rfl
      | some v => simp [hd, hk]
  · unfold sortWorldK grow putRowK putRow mapBlock Go.Sort.ahead
    simp
  · rw [hheap k hk, Array.getElem?_modify, if_neg fun e => hne e.symm]
end Go.Eng
set_option linter.unusedSectionVars false
namespace Go.Eng
open Go
theorem Fr.permL {S : Nat → Prop} {w0 w : World} {L L' : List VB} {D : List DP} (h : Fr w0 w L D S) (hp : L.Perm L') : Fr w0 w L' D S :=
  ⟨h.exs, fun v hv => h.vars v (hp.mem_iff.2 hv), (hp.pairwise_iff (fun h => Ne.symm h)).1 h.dist, h.data, fun v hv => h.apart v (hp.mem_iff.2 hv)⟩
theorem Fr.rotL {S : Nat → Prop} {w0 w : World} {a b c : VB} {L : List VB} {D : List DP} (h : Fr w0 w (a :: b :: c :: L) D S) : Fr w0 w (c :: a :: b :: L) D S :=
  h.permL (by
    have : (a :: b :: c :: L).Perm (a :: c :: b :: L) := (List.Perm.swap c b L).cons a
    exact this.trans (List.Perm.swap c a (b :: L)))
theorem Fr.wroteV {S : Nat → Prop} {w0 w w' : World} {b : Nat} {t : TypeId} {cs cs' : List Value} {L : List VB} {D : List DP} (hF : Fr w0 w (⟨b, t, cs⟩ :: L) D S) (hc : cs.all noU64 = true) (hE : Exs (fun k => k = b) w w') (hV : Vr w'.heap b t cs') : Fr w0 w' (⟨b, t, cs'⟩ :: L) D S := by
  have hd := List.pairwise_cons.1 hF.dist
  have hlo := (hF.vars _ (List.mem_cons_self ..)).1
  have hVo := (hF.vars _ (List.mem_cons_self ..)).2
  dsimp only at hlo hVo
  refine ⟨hF.exs.then hE fun i hi e => ?_, fun v hv => ?_, List.pairwise_cons.2 ⟨fun v hv => hd.1 v hv, hd.2⟩, fun d hdm => ?_, fun v hv d hdm => ?_⟩
  · subst e
    exact hlo.elim (fun h => absurd hi (Nat.not_lt_of_le h)) id
  · rcases List.mem_cons.1 hv with rfl | hv
    · exact ⟨hlo, hV⟩
    · have h1 := hF.vars v (List.mem_cons_of_mem _ hv)
      refine ⟨h1.1, ?_⟩
      have h2 := h1.2
      have h3 := h2.lt
      unfold Vr at h2 ⊢
      rw [hE.block _ h3 fun e => hd.1 v hv e.symm]; exact h2
  · have hap := hF.apart _ (List.mem_cons_self ..) d hdm
    refine d.st _ _ ⟨hE.size, fun k cs2 t2 y hk hor => hE.block k (Array.getElem?_eq_some_iff.1 hk).1 fun e => ?_, fun k o hk _ hf => hE.block k (Array.getElem?_eq_some_iff.1 hk).1 fun e => hap (e ▸ hf)⟩ (hF.data d hdm)
    subst e
    rcases hor with hf | hn
    · exact hap hf
    · unfold Vr at hVo
      rw [hVo] at hk
      cases hk
      simp only [List.toList_toArray] at hn
      rw [hc] at hn
      cases hn
  · rcases List.mem_cons.1 hv with rfl | hv
    · exact hF.apart _ (List.mem_cons_self ..) d hdm
    · exact hF.apart v (List.mem_cons_of_mem _ hv) d hdm
end Go.Eng
namespace Go.Proofs.YtlpheckjogphmaaGreat
open Go Go.Eng Go.Proofs Go.NatM Go.RowKit
def plt (x y : Int × Int) : Prop := x.1 < y.1 ∨ (x.1 = y.1 ∧ x.2 < y.2)
def SortedPl (l : GL) : Prop := l.Pairwise fun x y => plt x.1 y.1
def SortOk : Prop := ∀ (w : World) (b c : Nat) (l : GL) (zs : List Value), Vr w.heap b 57 (l.flatMap plc ++ zs) → l.length ≤ 1048576 → (l.map (·.1)).Nodup →
  Cl Tryz.prog 46 #[.slice (some ⟨b, 0, none⟩) l.length c, .func (.func 47) #[] #[]] w (fun e w' => e = .returned (.tuple #[]) ∧ ∃ l' : GL, l'.Perm l ∧ SortedPl l' ∧ Vr w'.heap b 57 (l'.flatMap plc ++ zs) ∧ Exs (fun k => k = b) w w')
def RetPc (w : World) (l : GL) (e : Ending) (w' : World) : Prop := ∃ (ls : GL) (b c : Nat) (zs : List Value), e = .returned (.slice (some ⟨b, 0, none⟩) ls.length c) ∧ (ls.length ≤ c ∧ zs.length = (c - ls.length) * 4 ∧ zs.all noU64 = true) ∧ Fr w w' [⟨b, 57, ls.flatMap plc ++ zs⟩] [dpGv ls] ∧ SortedPl ls ∧ (ls.map (·.1)).Nodup ∧ ls.length = l.length ∧ ∀ k, zk ls k = zk l k
theorem gplaces_ok (hSort : SortOk) (w : World) (g m r c : Nat) (l : GL) (hG : Gr w.heap g m r c l) (hl : l.length ≤ 1048576) : Cl Tryz.prog 16 #[.pointer (some ⟨g, 0, none⟩)] w (RetPc w l) := by
  have hn : (l.map (·.1)).Nodup := by obtain ⟨es, k, _, h⟩ := hG.mp; exact h.keys
  have hF := Gr.frD hG (Fr.refS w fun _ => False)
  have hgm := hG.ne
  clear hG
  refine enter Tryz.func16 rfl rfl rfl ?_
  repeat' (first | (refine TL.isOp ?_; first | (apply TL.ev; (case hd => rfl); (case h => (first | exact ev_simple rfl | (apply Ev.isBin; first | exact ev_eqlP rfl rfl rfl) | (apply Ev.isLoad; first | exact ev_loadCb hF rfl (by repeat (first | exact memH | apply memT)) rfl) | exact ev_fieldAddr rfl | exact ev_nilCheck rfl | exact ev_mlen hF rfl (by repeat (first | exact memH | apply memT))))) | (refine TL.makeFr hF (f := plc) ((0, 0), iv0) rfl rfl rfl (Nat.zero_le _) (by omega) rfl rfl rfl ?_; clear hF; intro w13 b13 hF) | (refine TL.rangeFr (f := spot) (g := ivA) (l := l) hF rfl (by repeat (first | exact memH | apply memT)) rfl ?_; have hr := hF.exs.size; clear hF; intro wr rr er hF; replace hr := Nat.le_trans hr (Nat.le_of_eq er.symm); clear er)) | (refine T.is ?_; first | refine T.seq ?_ | refine T.region ?_ | refine T.block ?_ | refine T.cond_f rfl ?_ | refine T.skip ?_) | (refine G.is ?_; first | refine G.next ?_) | refine TL.nil ?_)
  have hmr := hF.it_mp (m := m) (l2 := l) (by repeat (first | exact memH | apply memT)) (by repeat (first | exact memH | apply memT))
  have hgr := hF.it_cb (g := g) (cs := grc r c m) (by repeat (first | exact memH | apply memT)) (by repeat (first | exact memH | apply memT))
  have hzl : ((List.replicate l.length (((0, 0), iv0) : (Int × Int) × IV)).flatMap plc).length = (l.length - ([] : GL).length) * 4 := by rw [flatMap_len (f := plc) (k := 4) fun _ _ => rfl]; simp
  have hzn : ((List.replicate l.length (((0, 0), iv0) : (Int × Int) × IV)).flatMap plc).all noU64 = true := by have := plc_no (List.replicate l.length (((0, 0), iv0) : (Int × Int) × IV)) (zs := []) rfl; rwa [List.append_nil] at this
  refine T.loop (α := GL × GL × GL × List Value) (fun x => [(3, .slice (some ⟨b13, 0, none⟩) x.2.2.1.length l.length), (18, .pointer (some ⟨rr, 0, none⟩))])
    (fun x w' => l.Perm (x.1 ++ x.2.1) ∧ (Lk idk x.1 x.2.2.1 ∧ x.2.2.2.length = (l.length - x.2.2.1.length) * 4 ∧ x.2.2.2.all noU64 = true) ∧ Fr w w' [⟨b13, 57, x.2.2.1.flatMap plc ++ x.2.2.2⟩] [dpIt spot ivA rr m l x.1 x.2.1, dpMp spot ivA m l, dpCb g 84 (grc r c m), dpGv l, dpGv x.2.2.1]) (fun x => x.2.1.length) ([], l, [], (List.replicate l.length (((0, 0), iv0) : (Int × Int) × IV)).flatMap plc) (by repeat (first | exact Sub.nil _ | refine Sub.cons rfl ?_ | refine Sub.cons' rfl (int_congr (by omega)) ?_)) ⟨List.Perm.refl _, ⟨rfl, hzl, hzn⟩, by
      have h0 := Fr.addGv hF (l := []) fun p hp => (by cases hp)
      exact h0.weak (List.Sublist.refl _) (allH (by repeat (first | exact memH | apply memT)) (allH (by repeat (first | exact memH | apply memT)) (allH (by repeat (first | exact memH | apply memT)) (allH (by repeat (first | exact memH | apply memT)) (allH (by repeat (first | exact memH | apply memT)) allN)))))⟩ ?_
  clear hF hzl hzn
  rintro ⟨done, todo, ls, zs⟩ w1 ⟨hp, ⟨hlk, hzl, hzn⟩, hF⟩
  dsimp only at hp hlk hzl hzn hF ⊢
  have hpl := hp.length_eq
  rw [List.length_append] at hpl
  have hll := hlk.len
  have hnd : (ls.map (·.1)).Nodup := by
    rw [hlk.keys]
    have h1 : ((done ++ todo).map (·.1)).Nodup := ((hp.map _).nodup_iff).1 hn
    rw [List.map_append] at h1
    exact (List.nodup_append.1 h1).1
  repeat' (first | (refine TL.isOp ?_; first | (refine TL.isCall ?_; refine TL.call rfl rfl ?_; first | (refine (zleast_ok _ p.2 (Fr.gv (l := l) hF (by repeat (first | exact memH | apply memT)) p (pm_mem hp ht)).1.g (Nat.le_trans (Fr.gv (l := l) hF (by repeat (first | exact memH | apply memT)) p (pm_mem hp ht)).2 (by decide))).mono ?_; rintro _ wy ⟨y, rfl, hy, hE, hyn⟩; have hyn2 := Nat.le_trans hyn (Fr.gv (l := l) hF (by repeat (first | exact memH | apply memT)) p (pm_mem hp ht)).2; have hyv := hy.val; replace hF := Fr.addLI (hF.exts hE) hy; clear hE hy hyn; refine Back.mk ?_) | (refine (hSort _ b13 l.length ls zs (hF.var .head) (by omega) hnd).mono ?_; rintro _ wy ⟨rfl, ls', hpls, hso, hV', hE⟩; replace hF := hF.wroteV (plc_no _ hzn) hE hV'; clear hE hV'; rw [← hpls.length_eq]; refine Back.mk ?_)) | (apply TL.ev; (case hd => rfl); (case h => (first | exact ev_simple rfl | exact ev_entry hF (by repeat (first | exact memH | apply memT)) rfl))) | (refine TL.storeAFr hF rfl rfl rfl rfl (by refine ⟨?_, ?_⟩; (focus (repeat (first | apply SetV.head | apply SetV.tail))); rfl) rfl ?_; clear hF; intro ws hF) | (refine TL.nextFr hF (.inl hr) (nfC (nf_mp hmr) (nfC (nf_cb hgr) (nfC nf_gv (nfC nf_gv nfN)))) rfl rfl (fun h0 wn hFn => ?_) (fun p todo' wn ht hFn => ?_) <;> clear hF <;> have hF := hFn <;> clear hFn) | (refine TL.allocFr hF (d := 4) rfl rfl ?_; clear hF; intro w4 b4 hF) | (refine TL.allocFr hF (d := 5) rfl rfl ?_; clear hF; intro w5 b5 hF) | (refine TL.buildXs hF (f := plc) (d := 32) [(p.1, y)] [.tmp 31] rfl rfl rfl rfl (by intro u hu; rfl) rfl rfl (by omega) (by omega) ?_; clear hF; intro w32 b32 hF hEn hbn hSn) | (refine TL.appendAtFr (f := plc) (l := ls) (zs := zs) hF rfl rfl rfl rfl hSn (fun _ => rfl) (fun _ => rfl) rfl rfl rfl hzl (by omega) (plc_no _ hzn) (by omega) (by repeat (first | exact SetV.head | apply SetV.tail)) (fun hle wa hFn => ?_) (fun hgt wa ba ca za hca hza hzan hFn => ?_) <;> clear hF hSn <;> have hF := hFn <;> clear hFn)) | (refine TF.is ?_; first | refine TF.nil ?_ | refine TF.e rfl ?_ | (refine TF.pick rfl ?_; first | (apply TFo.ev; (case hd => rfl); (case h => (intro wh hF; first | exact ev_simple rfl | (apply Ev.isLoad; first | exact ev_loadFr hF rfl (by refine ⟨?_, ?_⟩; (focus (repeat (first | exact InV.head | apply InV.tail))); rfl) | exact ev_loadAFr hF rfl (by refine ⟨?_, ?_⟩; (focus (repeat (first | exact InV.head | apply InV.tail))); rfl)) | exact ev_fieldAddr rfl | exact ev_buildX rfl rfl))))) | (refine T.is ?_; first | refine T.seq ?_ | refine T.region ?_ | refine T.block ?_ | refine T.cond_t rfl ?_ | refine T.cond_f rfl ?_ | refine T.exit ?_ | refine T.ret ?_ | refine T.skip ?_ | (refine T.regionFt (Fr.rotL hF) 7 11 (.s 0 (.s 1 (.s 2 (.s 3 (.s 4 (.s 5 (.e 6 (.s 7 (.e 8 (.e 9 (.s 10 .nil))))))))))) mixed (by kernel_rfl) ?_; clear hF; intro wr hF)) | (refine G.is ?_; first | refine G.next ?_ | refine G.blockN ?_ | refine G.blockE ?_ | refine G.thenE ?_ | refine G.only ?_ | refine G.tree rfl (by first | exact hF | exact hF.weak (List.sublist_append_right _ _) (by repeat (first | exact allR | apply allT)) | exact hF.weak (by repeat (first | exact List.Sublist.refl _ | apply List.Sublist.cons)) (by repeat (first | exact allR | apply allT)) | exact hF.weak (by repeat (first | exact List.Sublist.refl _ | apply List.Sublist.cons)) (by repeat (first | exact allN | refine allH (by repeat (first | exact memH | apply memT)) ?_))) ?_) | refine TL.nil ?_)
  · subst h0
    rw [List.append_nil] at hp
    have hgv := Fr.gv (l := ls) hF (by repeat (first | exact memH | apply memT))
    have hF2 := Fr.addGv hF (l := ls') fun p hp => hgv p (hpls.mem_iff.1 hp)
    have hlen := hpls.length_eq
    have hdl := hp.length_eq
    refine G.ret1 rfl rfl ⟨ls', b13, l.length, zs, rfl, ⟨by omega, by rw [hlen]; exact hzl, hzn⟩, hF2.weak (List.Sublist.refl _) (allH (by repeat (first | exact memH | apply memT)) allN), hso, ((hpls.map _).nodup_iff).2 hnd, by omega, fun k => ?_⟩
    have e1 := hlk.zk idk_inj k
    unfold zk at e1 ⊢
    rw [lkp_perm hn hp, ← e1, ← lkp_perm hnd hpls.symm]; rfl
  · refine G.again (done ++ [p], todo', ls ++ [(idk p.1, y)], zs.drop (1 * 4)) ?_ ⟨step_perm hp ht, ⟨hlk.snoc hyv, ?_, drop_noV hzn _⟩, ?_⟩ (step_mu ht)
    · dsimp only; rw [List.length_append]; exact (by repeat (first | exact Sub.nil _ | refine Sub.cons rfl ?_ | refine Sub.cons' rfl (int_congr (by omega)) ?_))
    · dsimp only; rw [List.length_drop, List.length_append, hzl]; simp only [List.length_cons, List.length_nil]; omega
    · exact (Fr.gvSnoc hF (lo := ls) (q := idk p.1) (by repeat (first | exact memH | apply memT)) (Fr.li hF (x := y) (z := ival p.2) (by repeat (first | exact memH | apply memT))) hyn2).weak (.cons_cons _ (List.nil_sublist _)) (allH (by repeat (first | exact memH | apply memT)) (allH (by repeat (first | exact memH | apply memT)) (allH (by repeat (first | exact memH | apply memT)) (allH (by repeat (first | exact memH | apply memT)) (allH (by repeat (first | exact memH | apply memT)) allN)))))
  · have := step_mu ht
    exact absurd hgt (by omega)
end Go.Proofs.YtlpheckjogphmaaGreat
namespace Go.Proofs
open Go.Shelf
def Tryz.sortPl_ren : Go.Shelf.Ren := ⟨fun | 6 => 46 | 15 => 70 | 14 => 69 | 28 => 89 | 29 => 57 | 20 => 81 | 21 => 82 | 22 => 83 | 23 => 84 | 24 => 85 | 25 => 86 | 26 => 87 | 27 => 88 | 46 => 93 | 47 => 94 | 48 => 95 | 49 => 96 | 50 => 97 | 57 => 102 | n => n, fun | 22 => 46 | 24 => 57 | 25 => 97 | 3 => 3 | 39 => 114 | 0 => 0 | 53 => 131 | 55 => 64 | 4 => 4 | 46 => 124 | 45 => 123 | 50 => 128 | 5 => 5 | 9 => 9 | 66 => 134 | 70 => 138 | 76 => 142 | 77 => 143 | n => n, fun | n => n⟩
theorem Tryz.sortPl : Go.Proofs.SlLaysF0.n6 Tryz.prog Tryz.sortPl_ren := {
  mixed := by kernel_rfl
  f6 := ⟨Tryz.f46.name, by decide, Tryz.func46.trans (congrArg some (by kernel_rfl))⟩
  f14 := ⟨Tryz.f69.name, by decide, Tryz.func69.trans (congrArg some (by kernel_rfl))⟩
  f15 := Tryz.func70.trans (congrArg some (by kernel_rfl))
  f20 := ⟨Tryz.f81.name, by decide, Tryz.func81.trans (congrArg some (by kernel_rfl))⟩
  f21 := ⟨Tryz.f82.name, by decide, Tryz.func82.trans (congrArg some (by kernel_rfl))⟩
  f22 := ⟨Tryz.f83.name, by decide, Tryz.func83.trans (congrArg some (by kernel_rfl))⟩
  f23 := ⟨Tryz.f84.name, by decide, Tryz.func84.trans (congrArg some (by kernel_rfl))⟩
  f24 := ⟨Tryz.f85.name, by decide, Tryz.func85.trans (congrArg some (by kernel_rfl))⟩
  f25 := ⟨Tryz.f86.name, by decide, Tryz.func86.trans (congrArg some (by kernel_rfl))⟩
  f26 := ⟨Tryz.f87.name, by decide, Tryz.func87.trans (congrArg some (by kernel_rfl))⟩
  f27 := ⟨Tryz.f88.name, by decide, Tryz.func88.trans (congrArg some (by kernel_rfl))⟩
  f28 := Tryz.func89.trans (congrArg some (by kernel_rfl))
  f29 := Tryz.func57.trans (congrArg some (by kernel_rfl))
  f46 := ⟨Tryz.f93.name, by decide, Tryz.func93.trans (congrArg some (by kernel_rfl))⟩
  f47 := Tryz.func94.trans (congrArg some (by kernel_rfl))
  f48 := Tryz.func95.trans (congrArg some (by kernel_rfl))
  f49 := ⟨Tryz.f96.name, by decide, Tryz.func96.trans (congrArg some (by kernel_rfl))⟩
  f50 := ⟨Tryz.f97.name, by decide, Tryz.func97.trans (congrArg some (by kernel_rfl))⟩
  f57 := ⟨Tryz.f102.name, by decide, Tryz.func102.trans (congrArg some (by kernel_rfl))⟩
  t0 := Tryz.underlying0
  a0 := Tryz.isAgg0
  z0 := Tryz.sizeOf0
  v0 := Tryz.zeroValue0
  t3 := Tryz.underlying3
  a3 := Tryz.isAgg3
  z3 := Tryz.sizeOf3
  v3 := Tryz.zeroValue3
  t4 := Tryz.underlying4
  a4 := Tryz.isAgg4
  z4 := Tryz.sizeOf4
  v4 := Tryz.zeroValue4
  t5 := Tryz.underlying5
  a5 := Tryz.isAgg5
  z5 := Tryz.sizeOf5
  v5 := Tryz.zeroValue5
  t9 := Tryz.underlying9
  a9 := Tryz.isAgg9
  z9 := Tryz.sizeOf9
  v9 := Tryz.zeroValue9
  t22 := Tryz.underlying46
  a22 := Tryz.isAgg46
  z22 := Tryz.sizeOf46
  v22 := Tryz.zeroValue46
  t25 := Tryz.underlying97
  a25 := Tryz.isAgg97
  z25 := Tryz.sizeOf97
  v25 := Tryz.zeroValue97
  t39 := Tryz.underlying114
  a39 := Tryz.isAgg114
  z39 := Tryz.sizeOf114
  v39 := Tryz.zeroValue114
  t45 := Tryz.underlying123
  a45 := Tryz.isAgg123
  z45 := Tryz.sizeOf123
  v45 := Tryz.zeroValue123
  t46 := Tryz.underlying124
  a46 := Tryz.isAgg124
  z46 := Tryz.sizeOf124
  v46 := Tryz.zeroValue124
  t50 := Tryz.underlying128
  a50 := Tryz.isAgg128
  z50 := Tryz.sizeOf128
  v50 := Tryz.zeroValue128
  t53 := Tryz.underlying131
  a53 := Tryz.isAgg131
  z53 := Tryz.sizeOf131
  v53 := Tryz.zeroValue131
  t55 := Tryz.underlying64
  a55 := Tryz.isAgg64
  z55 := Tryz.sizeOf64
  v55 := Tryz.zeroValue64
  t66 := Tryz.underlying134
  a66 := Tryz.isAgg134
  z66 := Tryz.sizeOf134
  v66 := Tryz.zeroValue134
  t70 := Tryz.underlying138
  a70 := Tryz.isAgg138
  z70 := Tryz.sizeOf138
  v70 := Tryz.zeroValue138
  t76 := Tryz.underlying142
  a76 := Tryz.isAgg142
  z76 := Tryz.sizeOf142
  v76 := Tryz.zeroValue142
  t77 := Tryz.underlying143
  a77 := Tryz.isAgg143
  z77 := Tryz.sizeOf143
  v77 := Tryz.zeroValue143 }
end Go.Proofs
set_option linter.unusedSectionVars false
namespace Go.Proofs.YtlpheckjogphmaaGreat
open Go Go.Eng Go.Proofs Go.NatM Go.RowKit Go.Sort
theorem cmpPl_lt (x y : (Int × Int) × IV) : cmpPl x y < 0 ↔ plt x.1 y.1 := by
  unfold cmpPl orI cmpI plt
  constructor
  · intro h
    (repeat' split at h) <;> omega
  · intro h
    (repeat' split) <;> omega
theorem plt_swo : SWO (ltOf cmpPl) where
  irrefl x := by
    have : ¬ cmpPl x x < 0 := fun h => by have := (cmpPl_lt x x).1 h; unfold plt at this; omega
    simp [ltOf, this]
  trans x y z h1 h2 := by
    unfold ltOf at *
    simp only [decide_eq_true_eq] at *
    rw [cmpPl_lt] at *
    unfold plt at *; omega
  ntrans x y z h1 h2 := by
    unfold ltOf at *
    simp only [decide_eq_false_iff_not] at *
    rw [cmpPl_lt] at *
    unfold plt at *; omega
theorem sorted_of {d : Array ((Int × Int) × IV)} (hs : SortedIn (ltOf cmpPl) 0 d.size d) (hn : (d.toList.map (·.1)).Nodup) : SortedPl d.toList := by
  unfold SortedPl
  rw [List.pairwise_iff_getElem]
  intro i j hi hj hij
  have h1 := hs i j (Nat.zero_le _) hij (by simpa using hj)
  have hi' : i < d.size := by simpa using hi
  have hj' : j < d.size := by simpa using hj
  rw [getElem!_pos d i hi', getElem!_pos d j hj'] at h1
  unfold ltOf at h1
  simp only [decide_eq_false_iff_not] at h1
  rw [cmpPl_lt] at h1
  have h2 : d[i].1 ≠ d[j].1 := fun e => by
    have := (List.nodup_iff_pairwise_ne.1 hn)
    rw [List.pairwise_iff_getElem] at this
    have h3 := this i j (by simpa using hi) (by simpa using hj) hij
    simp only [List.getElem_map, Array.getElem_toList] at h3
    exact h3 e
  simp only [Array.getElem_toList]
  generalize d[i].1 = a at *
  generalize d[j].1 = b at *
  obtain ⟨a1, a2⟩ := a
  obtain ⟨b1, b2⟩ := b
  unfold plt at *
  simp only [ne_eq, Prod.mk.injEq, not_and] at *
  omega
theorem sort_ok : SortOk := by
  intro w b c l zs hV hl hn
  have eg : ∀ args w, (callFunc 47 args).run Tryz.prog w = .ok (.enter 47 args) w := enters_of Tryz.func47 (by kernel_rfl) rfl
  have hcmp : CmpLays Tryz.prog 47 #[] plc 4 cmpPl b 0 l.toArray.size w := fun m os dk _ x y => (plcmp_ok _ x y).out.mono fun e w' ⟨he, hg⟩ => ⟨he, hg.grow⟩
  have hcon := AnyQ.slices_SortFunc Tryz.sortPl 4 Tryz.isAgg57 Tryz.sizeOf57 plc (fun _ => rfl) (fun x v hv => by simp [plc] at hv; rcases hv with rfl | rfl | rfl | rfl <;> rfl) cmpPl plt_swo 47 #[] b 0 c l.toArray w eg hcmp (holds_of hV) hV.lt (by simp; omega)
  have e0 : l.toArray.size = l.length := by simp
  rw [e0] at hcon
  change Calls Tryz.prog 46 _ _ _ at hcon
  refine Cl.of (hcon.mono ?_)
  rintro e w' ⟨rfl, d', n, os, hp, hs, rfl⟩
  have hsz : d'.size = l.length := by have := hp.1; simpa using this
  have hpm : d'.toList.Perm l := by
    have h1 := hp.2.2
    have e1 : (d'.extract 0 l.length) = d' := by rw [← hsz]; simp
    have e2 : (l.toArray.extract 0 l.length) = l.toArray := by
      rw [← e0]; exact Array.extract_size
    rw [e1, e2] at h1
    exact h1
  have hv := put_vr (n := n) os hV hsz
  rw [← hsz] at hs
  exact ⟨rfl, d'.toList, hpm, sorted_of hs (((hpm.map _).nodup_iff).2 hn), hv.1, hv.2⟩
end Go.Proofs.YtlpheckjogphmaaGreat
set_option linter.unusedSectionVars false
namespace Go.Eng
open Go Go.Proofs Go.NatM Go.RowKit Go.Proofs.YtlpheckjogphmaaGreat
abbrev S3 := Option Addr × Nat × Nat
abbrev RW := Int × S3 × GL
def dpRW (R : List RW) : DP := ⟨fun H => ∀ r ∈ R, Sm 4 plc H H.size r.2.1.1 r.2.1.2.1 r.2.1.2.2 r.2.2, fun k => ∃ r ∈ R, fpA r.2.1.1 r.2.1.2.1 k,
  fun H k h ⟨r, hr, hk⟩ => (h r hr).fp_lt hk, fun H H' hd h r hr => (Sm.de (fun b hb => ⟨r, hr, hb⟩) hd (h r hr)).size⟩
section
variable {S : Nat → Prop} {w0 w w' : World} {L : List VB} {D : List DP}
theorem Fr.rw (hF : Fr w0 w L D S) {R : List RW} (h : dpRW R ∈ D) : ∀ r ∈ R, Sm 4 plc w.heap w.heap.size r.2.1.1 r.2.1.2.1 r.2.1.2.2 r.2.2 := hF.data _ h
theorem Fr.fin {R : List RW} {k : Int} {gl : GL} {b c : Nat} {zs : List Value} (hF : Fr w0 w (⟨b, 57, gl.flatMap plc ++ zs⟩ :: L) D S) (h : dpRW R ∈ D) (hc : gl.length ≤ c) : Fr w0 w L (dpRW (R ++ [(k, (some ⟨b, 0, none⟩, gl.length, c), gl)]) :: D) S := by
  have hw := hF.weak (L := L) (D := D) (List.Sublist.cons _ (List.Sublist.refl _)) allR
  have hV := hF.var (b := b) .head
  refine hw.add _ (fun r hr => ?_) fun v hv hk => ?_
  · rcases List.mem_append.1 hr with hr | hr
    · exact hF.rw h r hr
    · simp only [List.mem_cons, List.not_mem_nil, or_false] at hr
      subst hr
      exact vr_sm (by decide) (fun _ _ => rfl) hV rfl hc hV.lt
  · obtain ⟨r, hr, hk⟩ := hk
    rcases List.mem_append.1 hr with hr | hr
    · exact hF.apart v (List.mem_cons_of_mem _ hv) _ h ⟨r, hr, hk⟩
    · simp only [List.mem_cons, List.not_mem_nil, or_false] at hr
      subst hr
      obtain ⟨_, o, e⟩ := hk
      simp only [Option.some.injEq, Addr.mk.injEq] at e
      exact (List.pairwise_cons.1 hF.dist).1 v hv e.1
end
end Go.Eng
namespace Go.Proofs.YtlpheckjogphmaaGreat
open Go Go.Eng Go.Proofs Go.NatM Go.RowKit
section
variable {P : Program} {σ : Go.Eng.Store} {do_ : Option Tmp} {t : TypeId} {pos : String} {af : Array Edge} {gd : Option (Nat × Bool)} {S : Nat → Prop} {w0 w w' : World} {L : List VB} {D : List DP} {K V : Type} [DecidableEq K] {f : K → Value} {g : V → Value} {b : Nat} {l : List (K × V)}
end
end Go.Proofs.YtlpheckjogphmaaGreat
set_option linter.unusedSectionVars false
namespace Go.Eng
open Go Go.Proofs Go.NatM Go.RowKit Go.Proofs.YtlpheckjogphmaaGreat
abbrev SL := List (Int × IV)
def sz (s : SL) (j : Int) : Int := ival ((lkp s j).getD iv0)
def cs (gl : GL) (j : Int) : Int := (gl.map fun q => if q.1.2 = j then ival q.2 else 0).sum
end Go.Eng
set_option linter.unusedSectionVars false
namespace Go.Eng
open Go Go.Proofs Go.NatM Go.RowKit Go.Proofs.YtlpheckjogphmaaGreat
section
variable {P : Program} {σ : Go.Eng.Store} {do_ : Option Tmp} {t : TypeId} {pos : String} {af : Array Edge} {gd : Option (Nat × Bool)} {S : Nat → Prop} {w0 w w' : World} {L : List VB} {D : List DP}
end
end Go.Eng
namespace Go.Proofs.YtlpheckjogphmaaGreat
open Go Go.Eng Go.Proofs Go.NatM Go.RowKit
end Go.Proofs.YtlpheckjogphmaaGreat
set_option linter.unusedSectionVars false
namespace Go.Eng
open Go Go.Proofs Go.NatM Go.RowKit Go.Proofs.YtlpheckjogphmaaGreat
theorem nodup_len_le {α : Type} [DecidableEq α] : ∀ {a b : List α}, a.Nodup → (∀ x ∈ a, x ∈ b) → a.length ≤ b.length
  | [], b, _, _ => Nat.zero_le _
  | x :: a, b, hn, h => by
    simp only [List.nodup_cons] at hn
    have hx := h x (List.mem_cons_self ..)
    have ih := nodup_len_le (a := a) (b := b.erase x) hn.2 fun y hy => (List.mem_erase_of_ne (fun e => hn.1 (by rw [← e]; exact hy))).2 (h y (List.mem_cons_of_mem _ hy))
    rw [List.length_erase_of_mem hx] at ih
    have := List.length_pos_of_mem hx
    simp only [List.length_cons]
    omega
theorem NZ.none {l : GL} (h : NZ l) (hn : (l.map (·.1)).Nodup) (e : ∀ k, zv l k = 0) : l = [] := by
  cases l with
  | nil => rfl
  | cons p l => exact absurd (e p.1) ((h.keys p.1).1 (by simp))
end Go.Eng
namespace Go.Proofs.YtlpheckjogphmaaGreat
open Go Go.Eng Go.Proofs Go.NatM Go.RowKit
theorem Gr.nodup {H : Array Obj} {g m r c : Nat} {l : GL} (h : Gr H g m r c l) : (l.map (·.1)).Nodup := by obtain ⟨es, k, _, hr⟩ := h.mp; exact hr.keys
def SetBad (l : GL) (p : Int × Int) (z : Int) : Prop := bigZ z ∨ (zv l p = 0 ∧ z ≠ 0 ∧ 4096 ≤ l.length)
def RetSZ (w : World) (g m r c : Nat) (l : GL) (p : Int × Int) (z : Int) (e : Ending) (w' : World) : Prop := ∃ (er : Int) (l2 : GL), RetW w g m r c l2 (.int .i64 er) e w' ∧ ((er = 5 ∧ l2 = l ∧ SetBad l p z) ∨ (er = 0 ∧ ¬ SetBad l p z ∧ NZ l2 ∧ (∀ k, zv l2 k = if p = k then z else zv l k) ∧ (l2.length : Int) = (l.length : Int) - (if zv l p ≠ 0 then 1 else 0) + (if z ≠ 0 then 1 else 0)))
theorem setBad_iff {l : GL} (hz : NZ l) {p : Int × Int} {x : IV} : GLarge l p x ↔ SetBad l p (ival x) := by
  unfold GLarge SetBad
  rw [big_iff]
  have h := hz.iff p
  cases hq : (lkp l p).isSome with
  | false =>
    rw [hq] at h
    have : zv l p = 0 := Classical.byContradiction fun hn => by have := h.2 hn; cases this
    simp [this]
  | true =>
    rw [hq] at h
    have : zv l p ≠ 0 := h.1 rfl
    simp [this]
theorem gsetZ_ok (w : World) (g m r c : Nat) (l : GL) (p1 p2 : Int) (x : IV) (hG : Gr w.heap g m r c l) (hz : NZ l) (hp : (0 ≤ p1 ∧ p1 < (r : Int)) ∧ (0 ≤ p2 ∧ p2 < (c : Int))) (hx : GI w.heap x) (hxn : x.m.n ≤ 1099511627776) :
    Cl Tryz.prog 12 #[.pointer (some ⟨g, 0, none⟩), .int .i64 p1, .int .i64 p2, ivA x] w (RetSZ w g m r c l (p1, p2) (ival x)) := by
  by_cases hb : GLarge l (p1, p2) x
  · refine (gset_large w g m r c l p1 p2 x hG hp hx hxn hb).mono ?_
    rintro e w' ⟨rfl, hE⟩
    exact ⟨5, l, ⟨rfl, Exs.of hE, hG.ext hE⟩, .inl ⟨rfl, rfl, (setBad_iff hz).1 hb⟩⟩
  · have hnb := fun h => hb ((setBad_iff hz).2 h)
    have hn := Gr.nodup hG
    have key : ∀ (y : IV), ival y = ival x → NZ (putL l (p1, p2) y) ∧ (∀ k, zv (putL l (p1, p2) y) k = if (p1, p2) = k then ival x else zv l k) ∧ ((putL l (p1, p2) y).length : Int) = (l.length : Int) - (if zv l (p1, p2) ≠ 0 then 1 else 0) + (if ival x ≠ 0 then 1 else 0) := fun y e => by
      refine ⟨hz.put _ _, fun k => by rw [zv_putL hn, e], ?_⟩
      rw [putL_len, e]
      congr 2
      have h := hz.iff (p1, p2)
      by_cases h0 : zv l (p1, p2) = 0
      · have : (lkp l (p1, p2)).isSome = false := by
          cases hq : (lkp l (p1, p2)).isSome with
          | false => rfl
          | true => exact absurd h0 (h.1 hq)
        simp [this, h0]
      · have : (lkp l (p1, p2)).isSome = true := h.2 h0
        simp [this, h0]
    by_cases h0 : ival x = 0
    · refine (gset_zero w g m r c l p1 p2 x hG hp hx hxn h0).mono ?_
      intro e w' h
      have e1 : del l (p1, p2) = putL l (p1, p2) x := by unfold putL; rw [if_pos h0]
      rw [e1] at h
      exact ⟨0, _, h, .inr ⟨rfl, hnb, key x rfl⟩⟩
    · refine (gset_put w g m r c l p1 p2 x hG hp hx hxn hb h0).mono ?_
      rintro e w' ⟨y, hy, h⟩
      have e1 : ups l (p1, p2) y = putL l (p1, p2) y := by unfold putL; rw [if_neg (by rw [hy.val]; exact h0)]
      rw [e1] at h
      exact ⟨0, _, h, .inr ⟨rfl, hnb, key y hy.val⟩⟩
end Go.Proofs.YtlpheckjogphmaaGreat
namespace Go.Eng
open Go Go.Proofs Go.NatM Go.RowKit Go.Proofs.YtlpheckjogphmaaGreat
section
variable {P : Program} {σ : Go.Eng.Store} {H : Array Obj} {d : Option Tmp} {t : TypeId} {pos : String} {af : Array Edge} {gd : Option (Nat × Bool)}
end
end Go.Eng
namespace Go.Proofs.YtlpheckjogphmaaGreat
open Go Go.Eng Go.Proofs Go.NatM Go.RowKit
end Go.Proofs.YtlpheckjogphmaaGreat
set_option linter.unusedSectionVars false
namespace Go.Eng
open Go Go.Proofs Go.NatM Go.RowKit Go.Proofs.YtlpheckjogphmaaGreat
end Go.Eng
namespace Go.Proofs.YtlpheckjogphmaaGreat
open Go Go.Eng Go.Proofs Go.NatM Go.RowKit
end Go.Proofs.YtlpheckjogphmaaGreat
set_option linter.unusedSectionVars false
namespace Go.Eng
open Go Go.Proofs Go.NatM Go.RowKit Go.Proofs.YtlpheckjogphmaaGreat
def GZ (H : Array Obj) (g m r c : Nat) (Z : Int × Int → Int) (N : Nat) : Prop := ∃ l : GL, Gr H g m r c l ∧ NZ l ∧ l.length = N ∧ ∀ k, zv l k = Z k
theorem Gr.lts {H : Array Obj} {g m r c : Nat} {l : GL} (h : Gr H g m r c l) : g < H.size ∧ m < H.size := by
  obtain ⟨es, k, hm, _⟩ := h.mp
  exact ⟨h.cells.lt, (Array.getElem?_eq_some_iff.1 hm).1⟩
theorem Gr.de {H H' : Array Obj} {g m r c : Nat} {l : GL} (h : Gr H g m r c l) (hd : DE (fun k => k = g ∨ k = m) H H') : Gr H' g m r c l := by
  have e : (dpGr g m r c l).fp = fun k => k = g ∨ k = m := by unfold dpGr; rfl
  have := (dpGr g m r c l).st H H' (by rw [e]; exact hd) (by unfold dpGr; exact h)
  unfold dpGr at this; exact this
def dpGZ (g m r c : Nat) (Z : Int × Int → Int) (N : Nat) : DP := ⟨fun H => GZ H g m r c Z N, fun k => k = g ∨ k = m, fun H k h e => by
  obtain ⟨l, h, _⟩ := h
  rcases e with rfl | rfl
  · exact h.lts.1
  · exact h.lts.2, fun H H' hd h => by
  obtain ⟨l, h, k⟩ := h
  exact ⟨l, h.de hd, k⟩⟩
section
variable {S : Nat → Prop} {w0 w w' : World} {L : List VB} {D : List DP}
theorem Fr.gz {g m r c N : Nat} {Z : Int × Int → Int} (hF : Fr w0 w L D S) (h : dpGZ g m r c Z N ∈ D) : GZ w.heap g m r c Z N := by
  have := hF.data _ h
  unfold dpGZ at this; exact this
theorem GZ.ext {g m r c N : Nat} {Z : Int × Int → Int} (h : GZ w.heap g m r c Z N) (hE : Ext w w') : GZ w'.heap g m r c Z N := by
  obtain ⟨l, h, k⟩ := h
  exact ⟨l, h.ext hE, k⟩
theorem GZ.lt {H : Array Obj} {g m r c N : Nat} {Z : Int × Int → Int} (h : GZ H g m r c Z N) : g < H.size ∧ m < H.size := by
  obtain ⟨l, h, _⟩ := h
  exact h.lts
theorem Fr.callZ {g m r c N N' : Nat} {Z Z' : Int × Int → Int} (hF : Fr w0 w L (dpGZ g m r c Z N :: D) S) (hE : Exs (fun k => k = m) w w') (hb : w0.heap.size ≤ m ∨ S m) (hfree : ∀ x ∈ D, ¬ x.fp m) (hG : GZ w'.heap g m r c Z' N') : Fr w0 w' L (dpGZ g m r c Z' N' :: D) S := by
  obtain ⟨l, hg, _⟩ := hF.gz (List.mem_cons_self ..)
  obtain ⟨es, k, hm, _⟩ := hg.mp
  refine hF.callX hE hm rfl hb hfree (by unfold dpGZ; exact hG) fun _ h => ?_
  unfold dpGZ at h ⊢; exact h
end
def updZ (Z : Int × Int → Int) (p : Int × Int) (z : Int) (k : Int × Int) : Int := if p = k then z else Z k
def rowF (Z : Int × Int → Int) (i j kv : Int) (k : Int × Int) : Int := if k.1 = i then Z (i, k.2) + kv * Z (j, k.2) else Z k
theorem rowZ_eq {l : GL} {Z : Int × Int → Int} (h : ∀ k, zv l k = Z k) (i j kv : Int) (k : Int × Int) : rowZ l i j kv k = rowF Z i j kv k := by
  unfold rowZ rowF; simp only [h]
end Go.Eng
namespace Go.Proofs.YtlpheckjogphmaaGreat
open Go Go.Eng Go.Proofs Go.NatM Go.RowKit
def SetBz (Z : Int × Int → Int) (N : Nat) (p : Int × Int) (z : Int) : Prop := bigZ z ∨ (Z p = 0 ∧ z ≠ 0 ∧ 4096 ≤ N)
def RetF (w : World) (g m r c : Nat) (Z : Int × Int → Int) (N : Nat) (er : Int) (e : Ending) (w' : World) : Prop := e = .returned (.int .i64 er) ∧ Exs (fun k => k = m) w w' ∧ GZ w'.heap g m r c Z N
theorem setF5 (w : World) (g m r c N : Nat) (Z : Int × Int → Int) (p1 p2 : Int) (x : IV) (hG : GZ w.heap g m r c Z N) (hp : (0 ≤ p1 ∧ p1 < (r : Int)) ∧ (0 ≤ p2 ∧ p2 < (c : Int))) (hx : GI w.heap x) (hxn : x.m.n ≤ 1099511627776) (hb : SetBz Z N (p1, p2) (ival x)) :
    Cl Tryz.prog 12 #[.pointer (some ⟨g, 0, none⟩), .int .i64 p1, .int .i64 p2, ivA x] w (RetF w g m r c Z N 5) := by
  obtain ⟨l, hG, hz, hN, hv⟩ := hG
  have hb' : SetBad l (p1, p2) (ival x) := by unfold SetBad; rw [hv, hN]; exact hb
  refine (gsetZ_ok w g m r c l p1 p2 x hG hz hp hx hxn).mono ?_
  rintro e w' ⟨er, l2, ⟨rfl, hE, hG2⟩, ⟨rfl, rfl, _⟩ | ⟨_, hnb, _⟩⟩
  · exact ⟨rfl, hE, _, hG2, hz, hN, hv⟩
  · exact absurd hb' hnb
end Go.Proofs.YtlpheckjogphmaaGreat
set_option linter.unusedSectionVars false
namespace Go.Eng
open Go Go.Proofs Go.NatM Go.RowKit Go.Proofs.YtlpheckjogphmaaGreat
abbrev ZF := Int × Int → Int
def InS (n : Nat) (Z : ZF) : Prop := ∀ k, Z k ≠ 0 → (0 ≤ k.1 ∧ k.1 < (n : Int)) ∧ (0 ≤ k.2 ∧ k.2 < (n : Int))
def addF (A B : ZF) (k : Int × Int) : Int := A k + B k
theorem zv_cons {p : (Int × Int) × IV} {l : GL} (h : p.1 ∉ l.map (·.1)) (k : Int × Int) : zv (p :: l) k = zv l k + (if p.1 = k then ival p.2 else 0) := by
  by_cases hk : p.1 = k
  · subst hk
    rw [if_pos rfl, zv_none (lkp_none.2 h), Int.zero_add]
    exact zv_some (by simp [lkp])
  · rw [if_neg hk, Int.add_zero]
    unfold zv at0
    have : lkp (p :: l) k = lkp l k := by simp [lkp, hk]
    rw [this]
theorem InS.add {n : Nat} {A B : ZF} (hA : InS n A) (hB : InS n B) : InS n (addF A B) := fun k hk => by
  by_cases h : A k = 0
  · exact hB k fun e => hk (by unfold addF; rw [h, e]; rfl)
  · exact hA k h
theorem zv_mem {p : (Int × Int) × IV} : ∀ {l : GL}, (l.map (·.1)).Nodup → p ∈ l → zv l p.1 = ival p.2
  | [], _, h => by cases h
  | q :: l, hn, h => by
    have hn' := List.nodup_cons.1 hn
    rw [zv_cons hn'.1]
    rcases List.mem_cons.1 h with rfl | h
    · rw [if_pos rfl, zv_none (lkp_none.2 hn'.1), Int.zero_add]
    · rw [zv_mem hn'.2 h, if_neg fun e => hn'.1 (show q.1 ∈ l.map (·.1) by rw [e]; exact List.mem_map_of_mem h), Int.add_zero]
theorem cross_len {α β γ : Type} (f : α → β → γ) (b : List β) : ∀ a : List α, ((a.map fun p => b.map fun q => f p q).flatten).length = a.length * b.length
  | [] => by simp
  | p :: a => by
    have ih := cross_len f b a
    simp only [List.map_cons, List.flatten_cons, List.length_append, List.length_map, List.length_cons, Nat.add_mul, Nat.one_mul]
    omega
def BlZ (Z : ZF) (X : Nat) : Prop := ∀ k, bl (Z k).natAbs ≤ X
end Go.Eng
set_option linter.unusedSectionVars false
namespace Go.Eng
open Go Go.Proofs Go.NatM Go.RowKit Go.Proofs.YtlpheckjogphmaaGreat
def FitZ (Z : ZF) : Prop := (∀ k, ¬ bigZ (Z k)) ∧ ∀ ks : List (Int × Int), ks.Nodup → (∀ k ∈ ks, Z k ≠ 0) → ks.length ≤ 4096
theorem FitZ.congr {Z Z' : ZF} (h : FitZ Z) (e : ∀ k, Z' k = Z k) : FitZ Z' := by rw [funext e]; exact h
theorem sorted_keys : ∀ {a b : List (Int × Int)}, a.Pairwise plt → b.Pairwise plt → (∀ k, k ∈ a ↔ k ∈ b) → a = b
  | [], [], _, _, _ => rfl
  | [], y :: b, _, _, h => absurd ((h y).2 (List.mem_cons_self ..)) (List.not_mem_nil)
  | x :: a, [], _, _, h => absurd ((h x).1 (List.mem_cons_self ..)) (List.not_mem_nil)
  | x :: a, y :: b, ha, hb, h => by
    have ha' := List.pairwise_cons.1 ha
    have hb' := List.pairwise_cons.1 hb
    have asy : ∀ u v : Int × Int, plt u v → plt v u → False := fun u v h1 h2 => by unfold plt at h1 h2; omega
    have irr : ∀ u : Int × Int, ¬ plt u u := fun u h => asy u u h h
    have hxy : x = y := by
      rcases List.mem_cons.1 ((h x).1 (List.mem_cons_self ..)) with e | hx
      · exact e
      · rcases List.mem_cons.1 ((h y).2 (List.mem_cons_self ..)) with e | hy
        · exact e.symm
        · exact (asy x y (ha'.1 y hy) (hb'.1 x hx)).elim
    subst hxy
    rw [sorted_keys ha'.2 hb'.2 fun k => ⟨fun hk => by
      rcases List.mem_cons.1 ((h k).1 (List.mem_cons_of_mem _ hk)) with e | hk'
      · subst e; exact (irr _ (ha'.1 _ hk)).elim
      · exact hk', fun hk => by
      rcases List.mem_cons.1 ((h k).2 (List.mem_cons_of_mem _ hk)) with e | hk'
      · subst e; exact (irr _ (hb'.1 _ hk)).elim
      · exact hk'⟩]
structure PlF (ls : GL) (Z : ZF) (N : Nat) : Prop where
  so : SortedPl ls
  nd : (ls.map (·.1)).Nodup
  nz : NZ ls
  len : ls.length = N
  val : ∀ k, zv ls k = Z k
theorem PlF.same {a b : GL} {Z : ZF} {N M : Nat} (ha : PlF a Z N) (hb : PlF b Z M) : a.map (·.1) = b.map (·.1) := by
  refine sorted_keys (List.pairwise_map.2 ha.so) (List.pairwise_map.2 hb.so) fun k => ?_
  rw [ha.nz.keys, hb.nz.keys, ha.val, hb.val]
theorem PlF.at_ {a b : GL} {Z : ZF} {N M i : Nat} (ha : PlF a Z N) (hb : PlF b Z M) {p q : (Int × Int) × IV} (hp : a[i]? = some p) (hq : b[i]? = some q) : p.1 = q.1 ∧ ival p.2 = ival q.2 := by
  have e := ha.same hb
  have e1 : (a.map (·.1))[i]? = some p.1 := by rw [List.getElem?_map, hp]; rfl
  have e2 : (b.map (·.1))[i]? = some q.1 := by rw [List.getElem?_map, hq]; rfl
  rw [e, e2] at e1
  have e3 : q.1 = p.1 := Option.some.inj e1
  refine ⟨e3.symm, ?_⟩
  rw [← zv_mem ha.nd (List.mem_of_getElem? hp), ← zv_mem hb.nd (List.mem_of_getElem? hq), ha.val, hb.val, e3]
theorem Fr.addPl {S : Nat → Prop} {w0 w w' : World} {L : List VB} {D : List DP} {b N c : Nat} {ls : GL} (hF : Fr w0 w L D S) (hE : Ext w w') (hb : w.heap.size ≤ b) (hs : Sm 4 plc w'.heap w'.heap.size (some ⟨b, 0, none⟩) N c ls) (hv : ∀ p ∈ ls, LI w'.heap (ival p.2) p.2 ∧ p.2.m.n ≤ 16384) : Fr w0 w' L (dpGv ls :: dpSmG 4 plc (some ⟨b, 0, none⟩) N c ls :: D) S :=
  Fr.addGv (Fr.addSm' hF hE hs fun k hk => by
    obtain ⟨_, o, e⟩ := hk
    cases e
    exact hb) hv
end Go.Eng
namespace Go.Proofs.YtlpheckjogphmaaGreat
open Go Go.Eng Go.Proofs Go.NatM Go.RowKit
theorem GZ.inr {H : Array Obj} {g m r c N n : Nat} {Z : ZF} {l : GL} (hz : NZ l) (hv : ∀ k, zv l k = Z k) (hi : InS n Z) : ∀ p ∈ l, 0 ≤ p.1.2 ∧ p.1.2 < (n : Int) := fun p hp => (hi p.1 (by rw [← hv]; exact (hz.keys _).1 (List.mem_map_of_mem hp))).2
def RetPq (w : World) (Z : ZF) (N : Nat) (e : Ending) (w' : World) : Prop := ∃ (ls : GL) (b c : Nat), e = .returned (.slice (some ⟨b, 0, none⟩) N c) ∧ Ext w w' ∧ w.heap.size ≤ b ∧ Sm 4 plc w'.heap w'.heap.size (some ⟨b, 0, none⟩) N c ls ∧ (∀ p ∈ ls, LI w'.heap (ival p.2) p.2 ∧ p.2.m.n ≤ 16384) ∧ PlF ls Z N
theorem placesS (w : World) (g m r c N : Nat) (Z : ZF) (hG : GZ w.heap g m r c Z N) (hl : N ≤ 4096) : Cl Tryz.prog 16 #[.pointer (some ⟨g, 0, none⟩)] w (RetPq w Z N) := by
  obtain ⟨l, hG, hz, rfl, hv⟩ := hG
  refine (gplaces_ok sort_ok w g m r c l hG (by omega)).mono ?_
  rintro e w' ⟨ls, b, c', zs, rfl, ⟨hlc, _, _⟩, hF, hso, hnd, hlen, hk⟩
  have hb := (hF.vars _ (List.mem_cons_self ..)).1.resolve_right id
  have hzv : ∀ k, zv ls k = Z k := fun k => by rw [zv_zk, hk, ← zv_zk, hv]
  rw [hlen] at hlc ⊢
  refine ⟨ls, b, c', rfl, hF.ext, hb, pb_sm hF (by repeat (first | exact InV.head | apply InV.tail)) hlen hlc, Fr.gv (l := ls) hF (by repeat (first | exact memH | apply memT)), hso, hnd, fun p hp => ?_, hlen, hzv⟩
  have h1 := hk p.1
  have h2 : zk ls p.1 = some (ival p.2) := by unfold zk; rw [lkp_of_mem hnd (x := p.1) (v := p.2) hp]; rfl
  rw [h2] at h1
  unfold zk at h1
  cases hq : lkp l p.1 with
  | none => rw [hq] at h1; cases h1
  | some y =>
    rw [hq] at h1
    have e1 : ival p.2 = ival y := Option.some.inj h1
    rw [e1]
    exact hz _ (lkp_mem hq)
end Go.Proofs.YtlpheckjogphmaaGreat
set_option linter.unusedSectionVars false
namespace Go.Proofs.YtlpheckjogphmaaGreat
open Go Go.Eng Go.Proofs Go.NatM Go.RowKit
theorem alikeS (w : World) (x y : IV) (gx : GI w.heap x) (gy : GI w.heap y) (hl : x.m.l = y.m.l) (hn : x.neg = y.neg) (hx : x.m.n ≤ 1099511627776) (hy : y.m.n ≤ 1099511627776) : Cl Tryz.prog 9 #[ivA x, ivA y] w (YesM w) := by
  have hs := gx.s
  have hs' := gy.s
  obtain ⟨xn, ⟨xA, xk, xc, xl⟩⟩ := x
  obtain ⟨yn, ⟨yA, yk, yc, yl⟩⟩ := y
  dsimp only at hl hn hx hy hs hs'
  subst hn
  refine enter Tryz.func9 rfl rfl rfl ?_
  have hF := Fr.refl w
  repeat' (first | (refine TL.isOp ?_; first | (refine TL.isG ?_; first | refine TL.grun rfl rfl rfl ?_) | (refine TL.isCall ?_; refine TL.call rfl rfl ?_; first | (refine (same_t _ _ _ xA yA xk xc yk yc xl yl (hs.ext hF.ext) (hs'.ext hF.ext) (by omega) (by omega) hl).clX.mono ?_; rintro _ wc ⟨rfl, _, hE⟩; replace hF := hF.exts hE; clear hE; refine Back.mk ?_)) | (apply TL.ev; (case hd => rfl); (case h => (first | exact ev_simple rfl | (apply Ev.isBin; first | exact ev_eqlB (r := true) rfl rfl (beq_self_eq_true _)) | (apply Ev.isLoad; first | exact ev_loadFr hF rfl (by refine ⟨?_, ?_⟩; (focus (repeat (first | exact InV.head | apply InV.tail))); rfl)) | exact ev_fieldAddr rfl))) | (refine TL.boxAFr hF (d := 2) (cs := [.bool xn, .slice xA xk xc]) rfl rfl ?_; clear hF; intro w2 b2 hF) | (refine TL.boxAFr hF (d := 3) (cs := [.bool xn, .slice yA yk yc]) rfl rfl ?_; clear hF; intro w3 b3 hF)) | (refine T.is ?_; first | refine T.seq ?_ | refine T.region ?_ | refine T.ret ?_) | (refine G.is ?_; first | refine G.next ?_) | refine TL.nil ?_)
  all_goals exact G.ret1 rfl rfl ⟨rfl, hF.ext⟩
theorem alikeL (w : World) (x y : IV) {z : Int} (gx : LI w.heap z x) (gy : LI w.heap z y) (hx : x.m.n ≤ 1099511627776) (hy : y.m.n ≤ 1099511627776) : Cl Tryz.prog 9 #[ivA x, ivA y] w (YesM w) :=
  alikeS w x y gx.g gy.g (by rw [gx.d, gy.d]) (by rw [gx.e, gy.e]) hx hy
theorem placesT (w : World) (b b' c c' : Nat) (a d : GL) (n : Nat) (hs : Sm 4 plc w.heap w.heap.size (some ⟨b, 0, none⟩) n c a) (hs' : Sm 4 plc w.heap w.heap.size (some ⟨b', 0, none⟩) n c' d) (hn : n ≤ 1048576)
    (ga : ∀ p ∈ a, LI w.heap (ival p.2) p.2 ∧ p.2.m.n ≤ 16384) (gd : ∀ p ∈ d, LI w.heap (ival p.2) p.2 ∧ p.2.m.n ≤ 16384)
    (hk : ∀ (i : Nat) (p q : (Int × Int) × IV), a[i]? = some p → d[i]? = some q → p.1 = q.1 ∧ ival p.2 = ival q.2) :
    Cl Tryz.prog 18 #[.slice (some ⟨b, 0, none⟩) n c, .slice (some ⟨b', 0, none⟩) n c'] w (YesM w) := by
  have la := hs.len
  have ld := hs'.len
  refine enter Tryz.func18 rfl rfl rfl ?_
  have hF := Fr.refl w
  repeat' (first | (refine TL.isOp ?_; first | (refine TL.isBin ?_; refine TL.cmpG rfl rfl rfl rfl (fun hc => ?_) (fun hc => ?_) <;> (try (first | (exfalso; omega) | exact absurd rfl hc))) | (apply TL.ev; (case hd => rfl); (case h => (first | exact ev_simple rfl | exact ev_len rfl)))) | (refine T.is ?_; first | refine T.seq ?_ | refine T.region ?_ | refine T.block ?_ | refine T.cond_f rfl ?_ | refine T.skip ?_) | (refine G.is ?_; first | refine G.next ?_) | refine TL.nil ?_)
  refine T.loop (α := Nat) (fun i => [(0, .slice (some ⟨b, 0, none⟩) n c), (1, .slice (some ⟨b', 0, none⟩) n c'), (5, .int .i64 (i : Int))]) (fun i w' => i ≤ n ∧ Fr w w' [] []) (fun i => n - i) 0 (by repeat (first | exact Sub.nil _ | refine Sub.cons rfl ?_ | refine Sub.cons' rfl (int_congr (by omega)) ?_)) ⟨Nat.zero_le _, hF⟩ ?_
  clear hF
  rintro i w1 ⟨hi, hF⟩
  rcases Nat.lt_or_ge i n with hin | hin
  · obtain ⟨p, hp⟩ : ∃ p, a[i]? = some p := ⟨_, List.getElem?_eq_getElem (by omega)⟩
    obtain ⟨q, hq⟩ : ∃ q, d[i]? = some q := ⟨_, List.getElem?_eq_getElem (by omega)⟩
    obtain ⟨e1, e2⟩ := hk i p q hp hq
    have gp := ga p (List.mem_of_getElem? hp)
    have gq := gd q (List.mem_of_getElem? hq)
    clear hk ga gd
    obtain ⟨⟨p1, p2⟩, y⟩ := p
    obtain ⟨⟨q1, q2⟩, z⟩ := q
    obtain ⟨rfl, rfl⟩ := Prod.mk.inj e1
    dsimp only at e2 gp gq
    rw [e2] at gp
    repeat' (first | (refine TL.isOp ?_; first | (refine TL.isG ?_; first | refine TL.grun rfl rfl rfl ?_) | (refine TL.isCall ?_; refine TL.call rfl rfl ?_; first | (refine (alikeL _ y z (gp.1.ext hF.ext) (gq.1.ext hF.ext) (by omega) (by omega)).mono ?_; rintro _ wc ⟨rfl, hE⟩; replace hF := hF.exts hE; clear hE; refine Back.mk ?_)) | (refine TL.isBin ?_; refine TL.cmpG rfl rfl rfl rfl (fun hc => ?_) (fun hc => ?_) <;> (try (first | (exfalso; omega) | exact absurd rfl hc))) | (apply TL.ev; (case hd => rfl); (case h => (first | exact ev_simple rfl | (apply Ev.isBin; first | exact ev_arN rfl rfl rfl (by omega)) | exact ev_len rfl)))) | (refine TF.is ?_; first | refine TF.nil ?_ | refine TF.e rfl ?_ | (refine TF.pick rfl ?_; first | (refine TFo.cmpG rfl rfl rfl rfl (fun hc => ?_) (fun hc => ?_) <;> (try (first | (exfalso; omega) | exact absurd rfl hc))) | (refine TFo.cmpGg rfl rfl rfl rfl rfl rfl rfl (fun hc => ?_) (fun hc => ?_) <;> (try (first | (exfalso; omega) | exact absurd rfl hc))) | (apply TFo.ev; (case hd => rfl); (case h => (intro wh hF; first | exact ev_simple rfl | (apply Ev.isLoad; first | exact ev_loadMF rfl (hs.ext hF.ext) hp rfl | exact ev_loadMF rfl (hs'.ext hF.ext) hq rfl) | exact ev_fieldAddrE rfl rfl | exact ev_indexM rfl rfl hin (hs.ext hF.ext).some))) | (apply TFo.evg rfl rfl rfl; (case hd => rfl); (case h => (intro wh hF; first | exact ev_simple rfl | (apply Ev.isLoad; first | exact ev_loadMF rfl (hs.ext hF.ext) hp rfl | exact ev_loadMF rfl (hs'.ext hF.ext) hq rfl | exact ev_loadMS rfl (hs.ext hF.ext) hp rfl | exact ev_loadMS rfl (hs'.ext hF.ext) hq rfl) | exact ev_fieldAddrE rfl rfl | exact ev_indexM rfl rfl hin (hs.ext hF.ext).some))))) | (refine T.is ?_; first | refine T.seq ?_ | refine T.region ?_ | refine T.block ?_ | refine T.cond_t rfl ?_ | refine T.cond_f rfl ?_ | refine T.skip ?_ | (refine T.regionFr hF 6 38 (.s 0 (.s 1 (.s 2 (.s 3 (.s 4 (.s 5 (.s 6 (.s 7 (.s 8 (.s 9 (.s 10 (.s 11 (.s 12 (.s 13 (.s 14 (.s 15 (.s 16 (.s 17 (.s 18 (.s 19 (.s 20 (.s 21 (.s 22 (.s 23 (.s 24 (.s 25 (.s 26 (.s 27 (.s 28 (.s 29 (.s 30 (.s 31 (.s 32 (.s 33 (.s 34 (.e 35 (.s 36 (.s 37 .nil)))))))))))))))))))))))))))))))))))))) mixed (by kernel_rfl) ?_; clear hF; intro wr hF)) | (refine G.is ?_; first | refine G.next ?_ | refine G.blockN ?_ | refine G.only ?_ | refine G.tree rfl (by first | exact hF | exact hF.weak (List.sublist_append_right _ _) (by repeat (first | exact allR | apply allT)) | exact hF.weak (by repeat (first | exact List.Sublist.refl _ | apply List.Sublist.cons)) (by repeat (first | exact allR | apply allT)) | exact hF.weak (by repeat (first | exact List.Sublist.refl _ | apply List.Sublist.cons)) (by repeat (first | exact allN | refine allH (by repeat (first | exact memH | apply memT)) ?_))) ?_) | refine TL.nil ?_)
    all_goals exact G.again (i + 1) (by repeat (first | exact Sub.nil _ | refine Sub.cons rfl ?_ | refine Sub.cons' rfl (int_congr (by omega)) ?_)) ⟨hin, hF⟩ (by omega)
  · obtain rfl : i = n := by omega
    repeat' (first | (refine TL.isOp ?_; first | (refine TL.isBin ?_; refine TL.cmpG rfl rfl rfl rfl (fun hc => ?_) (fun hc => ?_) <;> (try (first | (exfalso; omega) | exact absurd rfl hc))) | (apply TL.ev; (case hd => rfl); (case h => (first | exact ev_simple rfl | exact ev_len rfl)))) | (refine T.is ?_; first | refine T.seq ?_ | refine T.region ?_ | refine T.cond_f rfl ?_ | refine T.exit ?_ | refine T.ret ?_) | (refine G.is ?_; first | refine G.next ?_ | refine G.blockE ?_ | refine G.thenE ?_) | refine TL.nil ?_)
    exact G.ret1 rfl rfl ⟨rfl, hF.ext⟩
end Go.Proofs.YtlpheckjogphmaaGreat
namespace Go.Eng
open Go Go.RowKit
def notHead (id : Nat) : Code → Bool
  | .region i _ _ => !(Nat.beq i id)
  | .seq a _ => notHead id a
  | _ => true
theorem T.seqM {P : Program} {N : Fm} {Q : Exit → Act → World → Prop} {σ : Store} {w : World} {x y : Code} (id : Nat) (hn : notHead id x = true) (h : T P N x (Exit.then (y.wp P Q) Q) σ w) : T P N (x.seq y) Q σ w := T.seq h
theorem TI.seqM {P : Program} {R : Option Nat} {N : Fm} {Q : Exit → Act → World → Prop} {σ : Store} {w : World} {x y : Code} (id : Nat) (hn : notHead id x = true) (h : TI P R N x (Exit.then (Kc P R y Q) Q) σ w) : TI P R N (x.seq y) Q σ w := TI.seq h
inductive Out : List VB → Nat → List VB → Prop
  | head {L : List VB} {b : Nat} {t : TypeId} {cs : List Value} : Out (⟨b, t, cs⟩ :: L) b L
  | tail {x : VB} {L L' : List VB} {b : Nat} : Out L b L' → Out (x :: L) b (x :: L')
theorem Out.sub {L L' : List VB} {b : Nat} (h : Out L b L') : L'.Sublist L := by
  induction h with
  | head => exact List.Sublist.cons _ (List.Sublist.refl _)
  | tail _ ih => exact List.Sublist.cons_cons _ ih
section
variable {P : Program} {N : Fm} {Q : Exit → Act → World → Prop} {σ : Store} {S : Nat → Prop} {w0 w : World} {L L' : List VB} {D : List DP} {l : List Oper}
theorem T.regionFo (b : Nat) (hF : Fr w0 w L D S) (hp : Out L b L') (id : Nat) (f : Nat) (t : Rt) (hm : P.follows .mixedOrders = true) (hB : treeB l.toArray f t = true)
    (h : ∀ w1 : World, Fr w0 w1 L D S → TF P N l Q (fun w' => Fr w0 w' L' D S) f t σ w1) : T P N (.region id l.toArray true) Q σ w :=
  T.regionF _ f t hm hB ((hF.weak hp.sub allR).exts (ext_drewN w 1)) (h _ (hF.exts (ext_drewN w 1)))
end
end Go.Eng
set_option linter.unusedSectionVars false
namespace Go.Eng
open Go Go.Proofs Go.NatM Go.RowKit Go.Proofs.YtlpheckjogphmaaGreat
structure FullF (a vv vy : Int) (Z0 Z2 Z3 : Int × Int → Int) : Prop where
  free : Z0 (1, (a + 4096) % 5000) = 0
  row : ∀ p : Int, Z0 (0, p) = 0
  at_ : Z0 (1, a) = vv
  two : ∀ k, updZ Z0 (1, a) vy k = Z2 k
  row2 : ∀ k, Z2 k ≠ 0 → k.1 = 1
  one2 : Z2 (1, (a + 1) % 5000) = vv
  zero2 : Z2 (0, (a + 1) % 5000) = 0
  sm2 : ∀ k, ¬ bigZ (Z2 k)
  three : ∀ k, rowF Z2 1 1 1 k = Z3 k
  sm3 : ∀ k, ¬ bigZ (Z3 k)
  iff3 : ∀ k, Z3 k ≠ 0 ↔ Z2 k ≠ 0
  one3 : Z3 (1, (a + 1) % 5000) = vv + vv
  row3 : ∀ k, Z3 k ≠ 0 → k.1 = 1
end Go.Eng
namespace Go.Proofs.YtlpheckjogphmaaGreat
open Go Go.Eng Go.Proofs Go.NatM Go.RowKit
end Go.Proofs.YtlpheckjogphmaaGreat
set_option linter.unusedSectionVars false
namespace Go.Eng
open Go Go.Proofs Go.NatM Go.RowKit Go.Proofs.YtlpheckjogphmaaGreat
theorem PlF.bl {ls : GL} {Z : ZF} {N X : Nat} (h : PlF ls Z N) (hb : ∀ j p, j < N → ls[j]? = some p → bl (ival p.2).natAbs ≤ X) : BlZ Z X := fun k => by
  by_cases h0 : Z k = 0
  · rw [h0]; exact Nat.zero_le _
  · rw [← h.val] at h0
    obtain ⟨p, hp, e⟩ := List.mem_map.1 ((h.nz.keys k).2 h0)
    obtain ⟨j, hj⟩ := List.mem_iff_getElem?.1 hp
    rw [← h.val, ← e, zv_mem h.nd hp]
    exact hb j p (by rw [← h.len]; exact (List.getElem?_eq_some_iff.1 hj).1) hj
end Go.Eng
namespace Go.Proofs.YtlpheckjogphmaaGreat
open Go Go.Eng Go.Proofs Go.NatM Go.RowKit
end Go.Proofs.YtlpheckjogphmaaGreat
set_option linter.unusedSectionVars false
namespace Go.Eng
open Go Go.Proofs Go.NatM Go.RowKit Go.Proofs.YtlpheckjogphmaaGreat
section
variable {P : Program} {N : Fm} {Q : Exit → Act → World → Prop} {σ : Go.Eng.Store} {S : Nat → Prop} {w0 w : World} {L : List VB} {D : List DP} {l : List Oper}
theorem T.regionFd {d : DP} (hF : Fr w0 w L (d :: D) S) (id : Nat) (f : Nat) (t : Rt) (hm : P.follows .mixedOrders = true) (hB : treeB l.toArray f t = true)
    (h : ∀ w1 : World, Fr w0 w1 L (d :: D) S → TF P N l Q (fun w' => Fr w0 w' L D S) f t σ w1) : T P N (.region id l.toArray true) Q σ w :=
  T.regionF _ f t hm hB ((hF.weak (List.Sublist.refl _) (allT allR)).exts (ext_drewN w 1)) (h _ (hF.exts (ext_drewN w 1)))
end
end Go.Eng
namespace Go.Proofs.YtlpheckjogphmaaGreat
open Go Go.Eng Go.Proofs Go.NatM Go.RowKit
end Go.Proofs.YtlpheckjogphmaaGreat
namespace Go.Eng
open Go Go.RowKit
structure KeepO (W W' : World) : Prop where
  size : W.heap.size ≤ W'.heap.size
  same : ∀ (k : Nat) (o : Obj), W.heap[k]? = some o → keepsObj o = false → W'.heap[k]? = some o
section
variable {S : Nat → Prop} {w0 w w' W : World} {L : List VB} {D : List DP} {B : Nat}
structure OpnK (w0 W : World) (S : Nat → Prop) : Prop where
  ext : Ext w0 W
  lo : ∀ k, S k → w0.heap.size ≤ k
  cells : ∀ k, S k → ∃ o : Obj, W.heap[k]? = some o ∧ keepsObj o = true
theorem Fr.openK (h : Fr w0 W L D) {m : Nat} {x : Obj} (hm : w0.heap.size ≤ m) (hx : W.heap[m]? = some x) (hk : keepsObj x = true) : ∃ S, OpnK w0 W S ∧ Fr W W L D S ∧ S m :=
  ⟨fun k => (∃ v ∈ L, v.b = k) ∨ k = m, ⟨h.ext, fun k hS => by
      rcases hS with ⟨v, hv, e⟩ | e
      · rcases (h.vars v hv).1 with h1 | h1
        · exact e ▸ h1
        · exact h1.elim
      · exact e ▸ hm, fun k hS => by
      rcases hS with ⟨v, hv, e⟩ | e
      · exact ⟨_, e ▸ (h.vars v hv).2, rfl⟩
      · exact ⟨x, e ▸ hx, hk⟩⟩,
    ⟨Exs.refl _ _, fun v hv => ⟨.inr (.inl ⟨v, hv, rfl⟩), (h.vars v hv).2⟩, h.dist, h.data, h.apart⟩, .inr rfl⟩
theorem Fr.outerK (hO : OpnK w0 W S) (h : Fr W w L D S) : Ext w0 w :=
  ⟨h.exs.os.trans hO.ext.os, h.exs.tape.trans hO.ext.tape, h.exs.output.trans hO.ext.output, Nat.le_trans hO.ext.size h.exs.size, fun k hk => (h.exs.block k (Nat.lt_of_lt_of_le hk hO.ext.size) (fun hs => by have := hO.lo k hs; omega)).trans (hO.ext.block k hk)⟩
theorem Fr.shutK (hO : OpnK w0 W S) (h : Fr W w L D S) : Fr w0 w L D :=
  ⟨.of (h.outerK hO), fun v hv => ⟨.inl (by rcases (h.vars v hv).1 with h1 | h1; exact Nat.le_trans hO.ext.size h1; exact hO.lo _ h1), (h.vars v hv).2⟩, h.dist, h.data, h.apart⟩
theorem Fr.othersK (hO : OpnK w0 W S) (h : Fr W w L D S) : KeepO W w :=
  ⟨h.exs.size, fun k o hk ho => (h.exs.block k (Array.getElem?_eq_some_iff.1 hk).1 (fun hs => by obtain ⟨o', h1, h2⟩ := hO.cells k hs; rw [hk] at h1; cases h1; rw [ho] at h2; cases h2)).trans hk⟩
end
theorem TI.mk {P : Program} {R : Option Nat} {N : Fm} {c : Code} {Q : Exit → Act → World → Prop} {σ : Store} {w : World} (h : NoOut Q → ∀ a, Rep N σ a → c.wpIn (wideR R) 0 P Q a w) : TI P R N c Q σ w := by unfold TI; exact h
theorem TI.run {P : Program} {R : Option Nat} {N : Fm} {c : Code} {Q : Exit → Act → World → Prop} {σ : Store} {w : World} (h : TI P R N c Q σ w) (hno : NoOut Q) {a : Act} (ha : Rep N σ a) : c.wpIn (wideR R) 0 P Q a w := by unfold TI at h; exact h hno a ha
def RPostK (I : World → Prop) (Ix : Code → World → Prop) (W : World) : Exit → Act → World → Prop
  | .normal, _, w' => KeepO W w' ∧ I w'
  | .ret, _, w' => KeepO W w' ∧ Ix .ret w'
  | .exit id, _, w' => KeepO W w' ∧ Ix (.exit id) w'
  | _, _, _ => False
def BegunK (P : Program) (B l : Nat) (body : Code) (I : World → Prop) (Ix : Code → World → Prop) (W : World) (a₁ : Act) (w₁ : World) : Prop :=
  KeepO W w₁ ∧ ∀ w₂, Cx B w₁ w₂ → (∃ r, w₂.heap[l]? = some (.loop r)) → body.wpIn (wideR (some l)) 0 P (RPostK I Ix w₂) a₁ w₂
theorem G.begunK {P : Program} {N : Fm} {σ : Store} {B l : Nat} {body : Code} {I : World → Prop} {Ix : Code → World → Prop} {Q : Exit → Act → World → Prop} {W w : World} (hK : KeepO W w)
    (h : ∀ w₂, Cx B w w₂ → (∃ r, w₂.heap[l]? = some (.loop r)) → TI P (some l) N body (RPostK I Ix w₂) σ w₂) : G N .normal (Exit.then (BegunK P B l body I Ix W) Q) σ w := by
  unfold G; exact fun a ha => ⟨hK, fun w₂ hc hr => (h w₂ hc hr).run (fun _ _ h => h) ha⟩
theorem TI.rangeFuncK {P : Program} {n : Nat} {Q : Exit → Act → World → Prop} {σ : Store} {w : World} {g : Operand} {ps : List Nat} {assign body : Code} {gf : FuncId} {cap : List Value} {β : Type} {args : β → List Value} {m : Nat} {It : World → Prop} {Fx : Nat → β → World → World → Prop}
    (hIt : Iter P gf cap args m It Fx) (hg : look σ g = some (.func (.func gf) #[] cap.toArray)) (hfn : IsFn P gf) (hps : ∀ x, (args x).length = ps.length) (hpn : ps.all (fun p => Nat.blt p n) = true)
    (it0 : It w) (hItc : ∀ W W', It W → Cx w.heap.size W W' → It W')
    (I : Nat → World → Prop) (Ix : Code → World → Prop) (hI : ∀ i W W', I i W → Cx w.heap.size W W' → I i W') (hIx : ∀ c W W', Ix c W → Cx w.heap.size W W' → Ix c W') (h0 : I 0 w)
    (hround : ∀ l i x Wb W, i < m → w.heap.size + 1 ≤ l → (∃ r, W.heap[l]? = some (.loop r)) → I i Wb → It Wb → Ext Wb W → Fx i x Wb W → TI P (some l) ⟨n, []⟩ assign (Exit.then (BegunK P w.heap.size l body (fun w' => I (i + 1) w' ∧ It w') Ix W) (fun _ _ _ => False)) (putAll ps (args x) σ) W)
    (hdone : ∀ D w', w.heap.size ≤ D → w'.heap[D]? = some (.deferred (some [])) → I m w' → It w' → G ⟨n, [markOf D]⟩ .normal Q σ w')
    (hstop : ∀ D c w', w.heap.size ≤ D → w'.heap[D]? = some (.deferred (some [])) → Ix c w' → TI P none ⟨n, [markOf D]⟩ c Q σ w') :
    TI P none ⟨n, []⟩ (.rangeFunc g ps.toArray assign body) Q σ w := by
  refine TI.mk fun hno a ha => ?_
  refine wpIn_rangeFunc (F := wideR none) (n := 0) ?_
  intro fn _
  have hnd : a.defers = [] := ha.nodef
  obtain ⟨rec, hrec⟩ : ∃ rec : LoopState → Option Code → Loop, rec = fun st pe => { state := st, pending := pe, fn, tmps := a.tmps, params := ps.toArray, assign, body, defers := w.heap.size } := ⟨_, rfl⟩
  obtain ⟨W1, hW1⟩ : ∃ W1, (w.alloc (.deferred (some []))).alloc (.loop (rec .ready none)) = W1 := ⟨_, rfl⟩
  have hE1 : Ext w W1 := by rw [← hW1]; exact Ext.trans (ext_alloc _ _) (ext_alloc _ _)
  have hL1 : W1.heap[w.heap.size + 1]? = some (.loop (rec .ready none)) := by
    rw [← hW1]; have := World.alloc_heap_new (w.alloc (.deferred (some []))) (.loop (rec .ready none)); rwa [World.size_alloc] at this
  have hK1 : W1.heap[w.heap.size]? = some (.deferred (some [])) := by
    rw [← hW1]; exact (Below.heap_alloc _ _ _ (by simp)).trans (World.alloc_heap_new w _)
  have ef := ha.agree _ _ hg
  refine ⟨w.heap.size + 1, [markOf w.heap.size], W1, { target := .fn (.func gf) cap.toArray, args := #[.func (.yield (w.heap.size + 1)) #[] #[]] }, W1, gf,
    (Value.func (.yield (w.heap.size + 1)) #[] #[] :: cap).toArray, W1, ?_, ?_, fun _ _ => trivial, ?_, fun e => (by cases e), ?_⟩
  · rw [← hW1, hrec]; exact run_enterLoop_outer _ _ _ _ _
  · simp only [resolve, ef]
    simp [go_sem]
  · simp [invoke, run_callFunc_enter hfn]
  · have recE : ∀ {W W' : World} {o : Obj} {k : Nat}, W.heap[k]? = some o → Ext W W' → W'.heap[k]? = some o := fun h hE => (hE.block _ (Array.getElem?_eq_some_iff.1 h).1).trans h
    refine calls_in ((hIt (w.heap.size + 1) (fun i W => I i W ∧ W.heap[w.heap.size + 1]? = some (.loop (rec .ready none)) ∧ W.heap[w.heap.size]? = some (.deferred (some [])))
      (fun W => ∃ c, Ix c W ∧ W.heap[w.heap.size + 1]? = some (.loop (rec .done (some c))) ∧ W.heap[w.heap.size]? = some (.deferred (some []))) W1
      (fun i W W' h hE => ⟨hI i W W' h.1 (.of hE), recE h.2.1 hE, recE h.2.2 hE⟩) (fun W W' ⟨c, h⟩ hE => ⟨c, hIx c W W' h.1 (.of hE), recE h.2.1 hE, recE h.2.2 hE⟩)
      (hItc _ _ it0 (.of hE1)) ⟨hI _ _ _ h0 (.of hE1), hL1, hK1⟩ ?_).mono ?_)
    · rintro i x Wb W hi ⟨hi0, hl, hk⟩ hit hEb hfx
      replace hl := recE hl hEb
      replace hk := recE hk hEb
      have hlt : w.heap.size + 1 < W.heap.size := (Array.getElem?_eq_some_iff.1 hl).1
      have hy := run_yield (P := P) (args := (args x).toArray) hl (by rw [hrec]; simpa using hps x)
      rw [hrec] at hy
      refine ⟨fn, _, assign, body, hy, roundIn_of_wpIn (F := Fence.wide) (n := 0) trivial ?_⟩
      have hrep : Rep ⟨n, []⟩ (putAll ps (args x) σ) { tmps := (ps.toArray.zip (args x).toArray).foldl (fun t (x : Nat × Value) => t.setIfInBounds x.1 x.2) a.tmps, defers := [] } := by
        have := Rep.fold ps (args x) ha hpn
        rw [hnd] at this
        simpa [List.zip_toArray] using this
      refine wpIn_mono ((hround (w.heap.size + 1) i x Wb W hi (Nat.le_refl _) ⟨_, hl⟩ hi0 hit hEb hfx).run (fun _ _ h => h) hrep) ?_
      rintro e a₁ w₁ hq
      cases e with
      | normal =>
        obtain ⟨hk1, hbody⟩ := hq
        have hl1 := hk1.same _ _ hl rfl
        have hd1 := hk1.same _ _ hk rfl
        have hlt1 := (Array.getElem?_eq_some_iff.1 hl1).1
        refine ⟨_, run_beginRound hl1 (by rw [hrec]), ?_⟩
        have hc2 : Cx w.heap.size w₁ (w₁.putObj (w.heap.size + 1) (.loop { rec .ready none with state := .busy })) := .put _ (by omega) hl1 rfl
        have hl2 : (w₁.putObj (w.heap.size + 1) (.loop { rec .ready none with state := .busy })).heap[w.heap.size + 1]? = some (.loop { rec .ready none with state := .busy }) := World.putObj_heap_same hlt1
        have hk2 : (w₁.putObj (w.heap.size + 1) (.loop { rec .ready none with state := .busy })).heap[w.heap.size]? = some (.deferred (some [])) := (World.putObj_heap_other (by omega)).trans hd1
        refine wpIn_mono (hbody _ hc2 ⟨_, hl2⟩) ?_
        have fin : ∀ (jump : Option Code) (W3 : World), KeepO (w₁.putObj (w.heap.size + 1) (.loop { rec .ready none with state := .busy })) W3 →
            ∃ W4, (Instr.endRound (w.heap.size + 1) jump).run P W3 = .ok (.bool jump.isNone) W4 ∧ Cx w.heap.size W3 W4 ∧
            W4.heap[w.heap.size + 1]? = some (.loop (rec (if jump.isNone then .ready else .done) jump)) ∧ W4.heap[w.heap.size]? = some (.deferred (some [])) := fun jump W3 hk3 => by
          have hl3 := hk3.same _ _ hl2 rfl
          have := run_endRound (P := P) jump hl3
          refine ⟨_, this, .put _ (by omega) hl3 rfl, ?_, (World.putObj_heap_other (by omega)).trans (hk3.same _ _ hk2 rfl)⟩
          rw [World.putObj_heap_same (Array.getElem?_eq_some_iff.1 hl3).1, hrec]
        rintro e a3 W3 hp
        cases e with
        | normal =>
          obtain ⟨W4, hr, hc4, hl4, hk4⟩ := fin none W3 hp.1
          exact ⟨_, _, hr, .inl ⟨rfl, ⟨hI _ _ _ hp.2.1 hc4, hl4, hk4⟩, hItc _ _ hp.2.2 hc4⟩⟩
        | ret =>
          obtain ⟨W4, hr, hc4, hl4, hk4⟩ := fin (some .ret) W3 hp.1
          exact ⟨_, _, hr, .inr ⟨rfl, .ret, hIx _ _ _ hp.2 hc4, hl4, hk4⟩⟩
        | exit id =>
          obtain ⟨W4, hr, hc4, hl4, hk4⟩ := fin (some (.exit id)) W3 hp.1
          exact ⟨_, _, hr, .inr ⟨rfl, .exit id, hIx _ _ _ hp.2 hc4, hl4, hk4⟩⟩
        | goto t => exact hp.elim
        | panic ch => exact hp.elim
        | outgrown => exact hp.elim
      | _ => exact hq.elim
    · rintro e W2 ⟨⟨v, rfl⟩, (⟨⟨hi, hl, hk⟩, hit⟩ | ⟨c, hi, hl, hk⟩)⟩
      · have hc : Cx w.heap.size W2 (W2.putObj (w.heap.size + 1) (.loop { rec .ready none with state := .exhausted })) := .put _ (by omega) hl rfl
        have hq := hdone w.heap.size _ (Nat.le_refl _) ((World.putObj_heap_other (by omega)).trans hk) (hI _ _ _ hi hc) (hItc _ _ hit hc)
        unfold G at hq
        refine ⟨none, _, (run_endLoop (P := P) hl (by rw [hrec]; simp)).trans (congrArg (fun x => Result.ok x _) (show (rec .ready none).pending = none by rw [hrec])), ?_⟩
        exact hq _ ⟨ha.size, by simp [hnd], ha.get⟩
      · have hc : Cx w.heap.size W2 (W2.putObj (w.heap.size + 1) (.loop { rec .done (some c) with state := .exhausted })) := .put _ (by omega) hl rfl
        refine ⟨some c, _, (run_endLoop (P := P) hl (by rw [hrec]; simp)).trans (congrArg (fun x => Result.ok x _) (show (rec .done (some c)).pending = some c by rw [hrec])), ?_⟩
        exact (hstop w.heap.size c _ (Nat.le_refl _) ((World.putObj_heap_other (by omega)).trans hk) (hIx _ _ _ hi hc)).run hno ⟨ha.size, by simp [hnd], ha.get⟩
theorem G.roundK {N : Fm} {σ : Store} {I : World → Prop} {Ix : Code → World → Prop} {W w : World} (hK : KeepO W w) (h : I w) : G N .normal (RPostK I Ix W) σ w := by
  unfold G; exact fun a ha => ⟨hK, h⟩
end Go.Eng
