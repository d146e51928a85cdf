/- Layer 10: the contract of Clear. Layer 10: lists of keys and values as functions; the contract of Swap. Layer 10: the contracts of Turn and Copy. Layer 10: grids as functions: what stands at a place as a number. Layer 10: the contract of Add. Layer 10: a row's new numbers; writes into lists of places. Layer 10: the contract of AddRow. -/
import Derived.Test.YtlpheckjogphmaaPd9
set_option linter.unusedVariables false
set_option linter.unusedSimpArgs false
set_option linter.unusedSectionVars false
namespace Go.Eng
open Go Go.Proofs Go.NatM Go.RowKit Go.Proofs.Ytlpheckjogphmaa
section
variable {K V : Type} [DecidableEq K]
theorem del_filter : ∀ {l : List (K × V)}, (l.map (·.1)).Nodup → ∀ (x : K), del l x = l.filter fun p => !decide (p.1 = x)
  | [], _, _ => rfl
  | (z, u) :: l, hn, x => by
    simp only [List.map_cons, List.nodup_cons] at hn
    by_cases h : z = x
    · subst h
      simp only [del, if_true, List.filter_cons, decide_true, Bool.not_true, Bool.false_eq_true, if_false]
      refine (List.filter_eq_self.2 fun p hp => ?_).symm
      have : p.1 ≠ z := fun e => hn.1 (List.mem_map.2 ⟨p, hp, e⟩)
      simp [this]
    · simp only [del, h, if_false, List.filter_cons, decide_false, Bool.not_false, if_true, del_filter hn.2 x]
/-- taken away one after the other -/
def dels (l : List (K × V)) (xs : List K) : List (K × V) := xs.foldl del l
theorem dels_filter {l : List (K × V)} (hn : (l.map (·.1)).Nodup) : ∀ (xs : List K), dels l xs = l.filter fun p => !decide (p.1 ∈ xs) := fun xs => by
  induction xs generalizing l with
  | nil => exact (List.filter_eq_self.2 fun _ _ => by simp).symm
  | cons x xs ih =>
    show dels (del l x) xs = _
    rw [ih (del_nodup hn x), del_filter hn, List.filter_filter]
    congr 1
    funext p
    by_cases h : p.1 = x <;> simp [h]
theorem dels_snoc (l : List (K × V)) (xs : List K) (x : K) : dels l (xs ++ [x]) = del (dels l xs) x := by simp [dels, List.foldl_append]
end
/-- all but the row's places -/
def outRow (i : Int) (l : GL) : GL := l.filter fun p => !decide (p.1.1 = i)
theorem mem_inRow {i : Int} {l : GL} {p : (Int × Int) × IV} : p ∈ inRow i l ↔ p ∈ l ∧ p.1.1 = i := by simp [inRow]
theorem dels_row {i : Int} {l l' : GL} (hn : (l.map (·.1)).Nodup) (h : l'.Perm (inRow i l)) : dels l (l'.map (·.1)) = outRow i l := by
  rw [dels_filter hn, outRow]
  refine List.filter_congr fun p hp => ?_
  congr 1
  have : p.1 ∈ l'.map (·.1) ↔ p.1.1 = i := by
    constructor
    · intro hm
      obtain ⟨q, hq, e⟩ := List.mem_map.1 hm
      rw [← e]; exact (mem_inRow.1 (h.mem_iff.1 hq)).2
    · intro e
      exact List.mem_map.2 ⟨p, h.mem_iff.2 (mem_inRow.2 ⟨hp, e⟩), rfl⟩
  simp [this]
theorem row_all {i : Int} {l l' : GL} (h : l'.Perm (inRow i l)) (e : l'.length = l.length) : outRow i l = [] := by
  have h1 : inRow i l = l := by
    have h2 := h.length_eq
    exact List.filter_eq_self.2 (List.length_filter_eq_length_iff.1 (by unfold inRow at h2; omega))
  rw [outRow, List.filter_eq_nil_iff]
  intro p hp
  rw [← h1] at hp
  simp [(mem_inRow.1 hp).2]
def slA : PB → Option Addr
  | none => none
  | some (b, _, _) => some ⟨b, 0, none⟩
def slC : PB → Nat
  | none => 0
  | some (_, c, _) => c
theorem slv_eq {l : GL} {pb : PB} (h : PBok l pb) : slv l.length pb = .slice (slA pb) l.length (slC pb) := by
  cases pb with
  | none => have : l = [] := h; rw [this]; rfl
  | some x => rfl
section
variable {S : Nat → Prop} {w0 w w' : World} {L : List VB} {D : List DP}
theorem plc_sm {l : GL} {pb : PB} (h : PBok l pb) (hF : Fr w w' (lvb l pb) []) : Sm 4 plc w'.heap w'.heap.size (slA pb) l.length (slC pb) l ∧ ∀ b, fpA (slA pb) l.length b → w.heap.size ≤ b := by
  cases pb with
  | none => have e : l = [] := h; subst e; exact ⟨⟨rfl, Nat.le_refl _, (by decide), fun _ h => (by cases h), .inl rfl⟩, fun b hb => absurd hb.1 (Nat.lt_irrefl _)⟩
  | some x =>
    obtain ⟨b, c, zs⟩ := x
    obtain ⟨h0, hc, hz, _⟩ := h
    have hV := hF.var (b := b) .head
    refine ⟨vr_sm (by decide) (fun _ _ => rfl) hV rfl hc hV.lt, fun k hk => ?_⟩
    obtain ⟨_, o, e⟩ := hk
    cases e
    exact ((hF.vars _ (List.mem_cons_self ..)).1).resolve_right id
/-- the lists of places lie apart from maps -/
theorem Fr.sm_mp {α : Type} {k : Nat} {f : α → List Value} {A : Option Addr} {n c m : Nat} {l : List α} {K V : Type} [DecidableEq K] {f' : K → Value} {g' : V → Value} {l' : List (K × V)} (hF : Fr w0 w L D S) (h1 : dpSmG k f A n c l ∈ D) (h2 : dpMp f' g' m l' ∈ D) : ¬ fpA A n m := fun ⟨hn, o, e⟩ => by
  have hs := hF.smG h1
  obtain ⟨es, kk, hm, _⟩ := hF.mp h2
  have hl := hs.len
  have hp := hs.pos
  rcases hs.mem with h | ⟨b, o', e', _, hc⟩
  · omega
  · rw [e] at e'
    cases e'
    have hw := hs.wid l[0] (List.getElem_mem (by omega))
    have := hc 0 l[0] (List.getElem?_eq_getElem (by omega)) 0 (f l[0])[0] (List.getElem?_eq_getElem (by omega))
    unfold hcell at this
    rw [hm] at this
    cases this
theorem Fr.addSm' {α : Type} {k : Nat} {f : α → List Value} {A : Option Addr} {n c : Nat} {l : List α} (hF : Fr w0 w L D S) (hE : Ext w w') (hs : Sm k f w'.heap w'.heap.size A n c l) (hf : ∀ b, fpA A n b → w.heap.size ≤ b) : Fr w0 w' L (dpSmG k f A n c l :: D) S :=
  hF.addNew hE _ (by unfold dpSmG; exact hs) fun b hb => hf b (by unfold dpSmG at hb; exact hb)
theorem Fr.grN {g m r c : Nat} (hF : Fr w0 w L D S) (h1 : dpMp spot ivA m ([] : GL) ∈ D) (h2 : dpCb g 96 (grc r c m) ∈ D) : Gr w.heap g m r c [] :=
  ⟨(by have := hF.data _ h2; unfold dpCb at this; exact this), hF.mp h1, fun p hp => (by cases hp)⟩
/-- a part of the grid -/
theorem Fr.grS {g m r c : Nat} {l l' : GL} (hF : Fr w0 w L D S) (h1 : dpMp spot ivA m l' ∈ D) (h2 : dpCb g 96 (grc r c m) ∈ D) (h3 : dpGv l ∈ D) (hs : ∀ p ∈ l', p ∈ l) : Gr w.heap g m r c l' :=
  ⟨(by have := hF.data _ h2; unfold dpCb at this; exact this), hF.mp h1, fun p hp => (by
    have h6 := hF.data _ h3
    unfold dpGv at h6
    exact h6 p (hs p hp))⟩
end
end Go.Eng
namespace Go.Proofs.Ytlpheckjogphmaa
open Go Go.Eng Go.Proofs Go.NatM Go.RowKit

/-- a list of places, as a fact -/
def RetPs (w : World) (Q : GL → Prop) (e : Ending) (w' : World) : Prop := ∃ (l' : GL) (A : Option Addr) (k : Nat), Q l' ∧ e = .returned (.slice A l'.length k) ∧ Ext w w' ∧ Sm 4 plc w'.heap w'.heap.size A l'.length k l' ∧ ∀ b, fpA A l'.length b → w.heap.size ≤ b
theorem RetPl.ps {w : World} {Q : GL → Prop} {e : Ending} {w' : World} (h : RetPl w Q e w') : RetPs w Q e w' := by
  obtain ⟨l', pb, hq, hb, rfl, hF⟩ := h
  have := plc_sm hb hF
  exact ⟨l', slA pb, slC pb, hq, by rw [slv_eq hb], hF.ext, this.1, this.2⟩
theorem take_snoc {α : Type} {l : List α} {k : Nat} {p : α} (h : l[k]? = some p) : l.take (k + 1) = l.take k ++ [p] := by rw [List.take_add_one, h]; rfl
set_option maxHeartbeats 2000000 in
theorem gclear_ok (w : World) (g m r c : Nat) (l : GL) (i : Int) (hG : Gr w.heap g m r c l) (hl : l.length ≤ 1048576) (hi : 0 ≤ i ∧ i < (r : Int)) :
    Cl Try.prog 37 #[.pointer (some ⟨g, 0, none⟩), .int .i64 i] w (RetW w g m r c (outRow i l) (.int .i64 0)) := by
  have hn : (l.map (·.1)).Nodup := by obtain ⟨es, k, _, h⟩ := hG.mp; exact h.keys
  have hF := Gr.frD hG (Fr.refS w fun k => k = m)
  have hgm := hG.ne
  clear hG
  have h1 := fun w1 => in_t w1 i r hi
  have hln := fun w1 (hG : Gr w1.heap g m r c l) => (gline_ok w1 g m r c l i hG hl).mono fun _ _ h => h.ps
  refine enter Try.func37 rfl rfl rfl ?_
  repeat' (first | (refine TL.isOp ?_; first | (refine TL.isG ?_; first | refine TL.grun rfl rfl rfl ?_) | (refine TL.isCall ?_; refine TL.call rfl rfl ?_; first | (refine (h1 _).mono ?_; rintro _ wy ⟨rfl, hE⟩; replace hF := hF.exts hE; clear hE; refine Back.mk ?_) | (refine (hln _ (hF.gr (by repeat (first | exact memH | apply memT)) (by repeat (first | exact memH | apply memT)) (by repeat (first | exact memH | apply memT)))).mono ?_; rintro _ wy ⟨l', A', k', hpm, rfl, hE, hs, hfr⟩; replace hF := Fr.addSm' hF hE hs hfr; clear hE hs hfr; refine Back.mk ?_)) | (refine TL.isBin ?_; refine TL.cmpG rfl rfl rfl rfl (fun hc => ?_) (fun hc => ?_) <;> (try (first | (exfalso; omega) | exact absurd rfl hc))) | (apply TL.ev; (case hd => rfl); (case h => (first | exact ev_simple rfl | (apply Ev.isBin; first | exact ev_eqlP rfl rfl rfl) | (apply Ev.isLoad; first | exact ev_loadCb hF rfl (by repeat (first | exact memH | apply memT)) rfl) | exact ev_len rfl | exact ev_fieldAddr rfl | exact ev_nilCheck rfl | exact ev_mlen hF rfl (by repeat (first | exact memH | apply memT)))))) | (refine T.is ?_; first | refine T.seq ?_ | refine T.region ?_ | refine T.block ?_ | refine T.cond_t rfl ?_ | refine T.cond_f rfl ?_ | refine T.skip ?_) | (refine G.is ?_; first | refine G.next ?_) | refine TL.nil ?_)
  · have e1 := row_all hpm (by omega)
    have hsm := hF.sm_mp (m := m) (by repeat (first | exact memH | apply memT)) (by repeat (first | exact memH | apply memT))
    repeat' (first | (refine TL.isOp ?_; first | (apply TL.ev; (case hd => rfl); (case h => (first | exact ev_simple rfl))) | (refine TL.mclear (Fr.swapD hF) (.inr rfl) (nfC (nf_smG hsm) (nfC (nf_cb hgm) (nfC nf_gv nfN))) rfl ?_; clear hF; intro wc hF)) | (refine T.is ?_; first | refine T.seq ?_ | refine T.region ?_ | refine T.ret ?_) | (refine G.is ?_; first | refine G.next ?_ | refine G.thenR ?_) | refine TL.nil ?_)
    all_goals exact G.ret1 rfl rfl ⟨rfl, hF.exs, by rw [e1]; exact hF.grN (by repeat (first | exact memH | apply memT)) (by repeat (first | exact memH | apply memT))⟩
  · have hlen := hpm.length_eq
    have hlen2 := inRow_len i l
    refine T.loop (α := Nat) (fun k => [(0, .pointer (some ⟨g, 0, none⟩)), (1, .int .i64 i), (34, .slice A' l'.length k'), (35, .int .i64 (l'.length : Int)), (36, .int .i64 (k : Int))])
      (fun k w' => k ≤ l'.length ∧ Fr w w' [] [dpMp spot ivA m (dels l ((l'.take k).map (·.1))), dpSmG 4 plc A' l'.length k' l', dpCb g 96 (grc r c m), dpGv l] (fun k => k = m)) (fun k => l'.length - k) 0 (by repeat (first | exact Sub.nil _ | refine Sub.cons rfl ?_ | refine Sub.cons' rfl (int_congr (by omega)) ?_)) ⟨Nat.zero_le _, Fr.swapD hF⟩ ?_
    clear hF
    rintro k w1 ⟨hk, hF⟩

    have hsm := hF.sm_mp (m := m) (by repeat (first | exact memH | apply memT)) (by repeat (first | exact memH | apply memT))
    rcases Nat.lt_or_ge k l'.length with hkn | hkn
    · obtain ⟨p, hp⟩ : ∃ p, l'[k]? = some p := ⟨_, List.getElem?_eq_getElem hkn⟩
      repeat' (first | (refine TL.isOp ?_; first | (refine TL.isBin ?_; refine TL.cmpG rfl rfl rfl rfl (fun hc => ?_) (fun hc => ?_) <;> (try (first | (exfalso; omega) | exact absurd rfl hc))) | (apply TL.ev; (case hd => rfl); (case h => (first | exact ev_simple rfl | (apply Ev.isBin; first | exact ev_arN rfl rfl rfl (by omega)) | (apply Ev.isLoad; first | exact ev_loadMc [.int .i64 p.1.1, .int .i64 p.1.2, .bool p.2.neg, .slice p.2.m.A p.2.m.n p.2.m.c] rfl (hF.smG (by repeat (first | exact memH | apply memT))) hp rfl) | exact ev_indexM rfl rfl hkn (hF.smG (by repeat (first | exact memH | apply memT))).some))) | (refine TL.storeAFr hF rfl rfl rfl rfl (by refine ⟨?_, ?_⟩; (focus (repeat (first | apply SetV.head | apply SetV.tail))); rfl) rfl ?_; clear hF; intro ws hF) | (refine TL.allocFr hF (d := 7) rfl rfl ?_; clear hF; intro w7 b7 hF) | (refine TL.mdel hF (.inr rfl) (nfC (nf_smG hsm) (nfC (nf_cb hgm) (nfC nf_gv nfN))) (q := (i, p.1.2)) rfl rfl ?_; clear hF; intro wd hF)) | (refine TF.is ?_; first | refine TF.nil ?_ | refine TF.e rfl ?_ | (refine TF.pick rfl ?_; first | (apply TFo.ev; (case hd => rfl); (case h => (intro wh hF; first | exact ev_simple rfl | (apply Ev.isLoad; first | exact ev_loadFr hF rfl (by refine ⟨?_, ?_⟩; (focus (repeat (first | exact InV.head | apply InV.tail))); rfl) | exact ev_loadCb hF rfl (by repeat (first | exact memH | apply memT)) rfl) | exact ev_fieldAddr rfl | exact ev_buildX rfl rfl | exact ev_nilCheck rfl))))) | (refine T.is ?_; first | refine T.seq ?_ | refine T.region ?_ | refine T.block ?_ | refine T.cond_t rfl ?_ | refine T.skip ?_ | (refine T.regionFr hF 10 8 (.s 0 (.s 1 (.s 2 (.s 3 (.s 4 (.s 5 (.s 6 (.s 7 (.e 8 .nil))))))))) mixed (by kernel_rfl) ?_; clear hF; intro wr hF)) | (refine G.is ?_; first | refine G.next ?_ | refine G.blockN ?_ | refine G.only ?_ | refine G.treeEnd rfl ?_) | refine TL.nil ?_)
      have hpi : p.1.1 = i := (mem_inRow.1 (hpm.mem_iff.1 (List.mem_of_getElem? hp))).2
      have ek : ((i, p.1.2) : Int × Int) = p.1 := by rw [← hpi]
      rw [ek, ← dels_snoc] at hF
      refine G.again (k + 1) (by repeat (first | exact Sub.nil _ | refine Sub.cons rfl ?_ | refine Sub.cons' rfl (int_congr (by omega)) ?_)) ⟨hkn, ?_⟩ (by omega)
      rw [take_snoc hp, List.map_append]
      exact hF.weak (List.nil_sublist _) allR
    · repeat' (first | (refine TL.isOp ?_; first | (refine TL.isBin ?_; refine TL.cmpG rfl rfl rfl rfl (fun hc => ?_) (fun hc => ?_) <;> (try (first | (exfalso; omega) | exact absurd rfl hc))) | (apply TL.ev; (case hd => rfl); (case h => (first | exact ev_simple rfl)))) | (refine T.is ?_; first | refine T.seq ?_ | refine T.region ?_ | refine T.cond_f rfl ?_ | refine T.exit ?_ | refine T.ret ?_) | (refine G.is ?_; first | refine G.next ?_ | refine G.blockE ?_ | refine G.thenE ?_) | refine TL.nil ?_)
      have e : dels l ((l'.take k).map (·.1)) = outRow i l := by rw [List.take_of_length_le hkn]; exact dels_row hn hpm
      rw [e] at hF
      exact G.ret1 rfl rfl ⟨rfl, hF.exs, hF.grS (by repeat (first | exact memH | apply memT)) (by repeat (first | exact memH | apply memT)) (by repeat (first | exact memH | apply memT)) fun p hp => (List.mem_filter.1 hp).1⟩
theorem gclear_bad (w : World) (g m r c : Nat) (l : GL) (i : Int) (hG : Gr w.heap g m r c l) (hi : ¬ (0 ≤ i ∧ i < (r : Int))) :
    Cl Try.prog 37 #[.pointer (some ⟨g, 0, none⟩), .int .i64 i] w (fun e w' => e = .returned (.int .i64 3) ∧ Ext w w') := by
  have hF := Gr.fr hG fun _ => False
  clear hG
  have h1 := fun w1 => in_f w1 i r hi
  refine enter Try.func37 rfl rfl rfl ?_
  repeat' (first | (refine TL.isOp ?_; first | (refine TL.isG ?_; first | refine TL.grun rfl rfl rfl ?_) | (refine TL.isCall ?_; refine TL.call rfl rfl ?_; first | (refine (h1 _).mono ?_; rintro _ wy ⟨rfl, hE⟩; replace hF := hF.exts hE; clear hE; refine Back.mk ?_)) | (apply TL.ev; (case hd => rfl); (case h => (first | exact ev_simple rfl | (apply Ev.isBin; first | exact ev_eqlP rfl rfl rfl) | (apply Ev.isLoad; first | exact ev_loadCb hF rfl (by repeat (first | exact memH | apply memT)) rfl) | exact ev_fieldAddr rfl | exact ev_nilCheck rfl)))) | (refine T.is ?_; first | refine T.seq ?_ | refine T.region ?_ | refine T.cond_t rfl ?_ | refine T.ret ?_) | (refine G.is ?_; first | refine G.next ?_ | refine G.thenR ?_) | refine TL.nil ?_)
  all_goals exact G.ret1 rfl rfl ⟨rfl, hF.ext⟩
end Go.Proofs.Ytlpheckjogphmaa

set_option linter.unusedSectionVars false
namespace Go.Eng
open Go Go.Proofs Go.NatM Go.RowKit Go.Proofs.Ytlpheckjogphmaa
section
variable {K V : Type} [DecidableEq K]
theorem lkp_iff {l : List (K × V)} (hn : (l.map (·.1)).Nodup) {x : K} {v : V} : lkp l x = some v ↔ (x, v) ∈ l := ⟨lkp_mem, lkp_of_mem hn⟩
theorem lkp_perm {l l' : List (K × V)} (hn : (l.map (·.1)).Nodup) (h : l.Perm l') (x : K) : lkp l x = lkp l' x := by
  have hn' : (l'.map (·.1)).Nodup := (h.map _).nodup_iff.1 hn
  cases hq : lkp l' x with
  | none => rw [lkp_none] at hq ⊢; exact fun hm => hq ((h.map _).mem_iff.1 hm)
  | some v => rw [lkp_iff hn]; exact h.mem_iff.2 ((lkp_iff hn').1 hq)
theorem lkp_filter (P : K → Bool) : ∀ (l : List (K × V)) (x : K), lkp (l.filter fun p => P p.1) x = if P x then lkp l x else none
  | [], x => by simp [lkp]
  | (y, u) :: l, x => by
    by_cases hP : P y
    · simp only [List.filter_cons, hP, if_true, lkp]
      by_cases h : y = x
      · subst h; simp [hP]
      · simp only [h, if_false]; exact lkp_filter P l x
    · have : (P y) = false := by simpa using hP
      simp only [List.filter_cons, this, Bool.false_eq_true, if_false, lkp]
      by_cases h : y = x
      · subst h; rw [lkp_filter P l y]; simp [this]
      · simp only [h, if_false]; exact lkp_filter P l x
/-- many written, one after the other -/
def upl (l xs : List (K × V)) : List (K × V) := xs.foldl (fun l p => ups l p.1 p.2) l
theorem upl_snoc (l xs : List (K × V)) (p : K × V) : upl l (xs ++ [p]) = ups (upl l xs) p.1 p.2 := by simp [upl, List.foldl_append]
theorem lkp_upl : ∀ {xs : List (K × V)} (l : List (K × V)), (xs.map (·.1)).Nodup → ∀ x, lkp (upl l xs) x = (lkp xs x).or (lkp l x)
  | [], l, _, x => by simp [upl, lkp]
  | (y, u) :: xs, l, hn, x => by
    simp only [List.map_cons, List.nodup_cons] at hn
    show lkp (upl (ups l y u) xs) x = _
    rw [lkp_upl _ hn.2, lkp_ups]
    by_cases h : y = x
    · subst h
      rw [lkp_none.2 hn.1]; simp [lkp]
    · simp [lkp, h]
theorem upl_nodup {l : List (K × V)} (hn : (l.map (·.1)).Nodup) : ∀ (xs : List (K × V)), ((upl l xs).map (·.1)).Nodup := fun xs => by
  induction xs generalizing l with
  | nil => exact hn
  | cons p xs ih => exact ih (ups_nodup hn ..)
end
theorem lkp_inRow (i : Int) (l : GL) (x y : Int) : lkp (inRow i l) (x, y) = if x = i then lkp l (x, y) else none := by
  have := lkp_filter (fun k : Int × Int => decide (k.1 = i)) l (x, y)
  simp only [decide_eq_true_eq] at this
  exact this
theorem lkp_outRow (i : Int) (l : GL) (x y : Int) : lkp (outRow i l) (x, y) = if x = i then none else lkp l (x, y) := by
  have := lkp_filter (fun k : Int × Int => !decide (k.1 = i)) l (x, y)
  rw [show outRow i l = l.filter fun p => (fun k : Int × Int => !decide (k.1 = i)) p.1 from rfl, this]
  by_cases h : x = i <;> simp [h]
theorem outRow_nodup {i : Int} {l : GL} (hn : (l.map (·.1)).Nodup) : ((outRow i l).map (·.1)).Nodup := hn.sublist (List.filter_sublist.map _)
/-- a row's places in another row -/
def mvRow (j : Int) (l : GL) : GL := l.map fun p => ((j, p.1.2), p.2)
theorem lkp_mvRow (i j : Int) : ∀ (l : GL) (x y : Int), (∀ p ∈ l, p.1.1 = i) → lkp (mvRow j l) (x, y) = if x = j then lkp l (i, y) else none
  | [], x, y, _ => by simp [mvRow, lkp]
  | ((a, b), v) :: l, x, y, h => by
    have h1 : a = i := h _ (List.mem_cons_self ..)
    subst h1
    have ih := lkp_mvRow a j l x y fun p hp => h p (List.mem_cons_of_mem _ hp)
    show lkp (((j, b), v) :: mvRow j l) (x, y) = _
    simp only [lkp, ih, Prod.mk.injEq]
    by_cases hx : x = j
    · subst hx
      simp
    · have : ¬ j = x := fun e => hx e.symm
      simp [hx, this]
theorem mvRow_nodup (i j : Int) : ∀ {l : GL}, (∀ p ∈ l, p.1.1 = i) → (l.map (·.1)).Nodup → ((mvRow j l).map (·.1)).Nodup
  | [], _, _ => by simp [mvRow]
  | ((a, b), v) :: l, h, hn => by
    simp only [List.map_cons, List.nodup_cons] at hn
    show ((((j, b), v) :: mvRow j l).map (·.1)).Nodup
    simp only [List.map_cons, List.nodup_cons]
    refine ⟨fun hm => ?_, mvRow_nodup i j (fun p hp => h p (List.mem_cons_of_mem _ hp)) hn.2⟩
    obtain ⟨q, hq, e⟩ := List.mem_map.1 hm
    obtain ⟨p, hp, rfl⟩ := List.mem_map.1 hq
    simp only [Prod.mk.injEq, true_and] at e
    refine hn.1 (List.mem_map.2 ⟨p, hp, ?_⟩)
    have h1 : a = i := h _ (List.mem_cons_self ..)
    have h2 := h p (List.mem_cons_of_mem _ hp)
    obtain ⟨⟨p1, p2⟩, pv⟩ := p
    simp only at h2 e
    rw [h2, e, h1]
def swp (i j x : Int) : Int := if x = i then j else if x = j then i else x
/-- two rows changed -/
theorem lkp_swap {i j : Int} {l a b : GL} (hn : (l.map (·.1)).Nodup) (ha : a.Perm (inRow i l)) (hb : b.Perm (inRow j l)) (x y : Int) :
    lkp (upl (upl (outRow j (outRow i l)) (mvRow j a)) (mvRow i b)) (x, y) = lkp l (swp i j x, y) := by
  have na : (a.map (·.1)).Nodup := ((ha.map _).nodup_iff).2 (hn.sublist (List.filter_sublist.map _))
  have nb : (b.map (·.1)).Nodup := ((hb.map _).nodup_iff).2 (hn.sublist (List.filter_sublist.map _))
  have ra : ∀ p ∈ a, p.1.1 = i := fun p hp => (mem_inRow.1 (ha.mem_iff.1 hp)).2
  have rb : ∀ p ∈ b, p.1.1 = j := fun p hp => (mem_inRow.1 (hb.mem_iff.1 hp)).2
  rw [lkp_upl _ (mvRow_nodup j i rb nb), lkp_upl _ (mvRow_nodup i j ra na), lkp_mvRow j i b x y rb, lkp_mvRow i j a x y ra, lkp_perm na ha, lkp_perm nb hb, lkp_inRow, lkp_inRow, lkp_outRow, lkp_outRow]
  simp only [if_true]
  unfold swp
  by_cases hi : x = i
  · subst hi
    by_cases hj : x = j
    · subst hj; cases h : lkp l (x, y) <;> simp [h]
    · have : ¬ j = x := fun e => hj e.symm
      simp [hj]
  · by_cases hj : x = j
    · subst hj; simp [hi]
    · simp [hi, hj]
section
variable {S : Nat → Prop} {w0 w w' : World} {L : List VB} {D : List DP}
end
end Go.Eng
namespace Go.Proofs.Ytlpheckjogphmaa
open Go Go.Eng Go.Proofs Go.NatM Go.RowKit

/-- a grid turned, by what stands at its places -/
def RetGL (w : World) (g m r c : Nat) (F : Int → Int → Option IV) (v : Value) (e : Ending) (w' : World) : Prop := ∃ l', RetW w g m r c l' v e w' ∧ ∀ x y, lkp l' (x, y) = F x y
theorem mvRow_snoc (j : Int) (l : GL) (p : (Int × Int) × IV) : mvRow j (l ++ [p]) = mvRow j l ++ [((j, p.1.2), p.2)] := by simp [mvRow]
set_option maxHeartbeats 2000000 in
theorem gswap_ok (w : World) (g m r c : Nat) (l : GL) (i j : Int) (hG : Gr w.heap g m r c l) (hl : l.length ≤ 1048576) (hi : 0 ≤ i ∧ i < (r : Int)) (hj : 0 ≤ j ∧ j < (r : Int)) :
    Cl Try.prog 36 #[.pointer (some ⟨g, 0, none⟩), .int .i64 i, .int .i64 j] w (RetGL w g m r c (fun x y => lkp l (swp i j x, y)) (.int .i64 0)) := by
  have hn : (l.map (·.1)).Nodup := by obtain ⟨es, k, _, h⟩ := hG.mp; exact h.keys
  have hF := Gr.frD hG (Fr.refS w fun k => k = m)
  have hgm := hG.ne
  clear hG
  have h1 := fun w1 => in_t w1 i r hi
  have h2 := fun w1 => in_t w1 j r hj
  have hla := fun w1 (hG : Gr w1.heap g m r c l) => (gline_ok w1 g m r c l i hG hl).mono fun _ _ h => h.ps
  have hlb := fun w1 (hG : Gr w1.heap g m r c l) => (gline_ok w1 g m r c l j hG hl).mono fun _ _ h => h.ps
  have hca := fun w1 (hG : Gr w1.heap g m r c l) => gclear_ok w1 g m r c l i hG hl hi
  have hol : (outRow i l).length ≤ 1048576 := Nat.le_trans (List.length_filter_le ..) hl
  have hcb := fun w1 (hG : Gr w1.heap g m r c (outRow i l)) => gclear_ok w1 g m r c (outRow i l) j hG hol hj
  refine enter Try.func36 rfl rfl rfl ?_
  repeat' (first | (refine TL.isOp ?_; first | (refine TL.isG ?_; first | refine TL.grun rfl rfl rfl ?_) | (refine TL.isCall ?_; refine TL.call rfl rfl ?_; first | (refine (h1 _).mono ?_; rintro _ wy ⟨rfl, hE⟩; replace hF := hF.exts hE; clear hE; refine Back.mk ?_) | (refine (h2 _).mono ?_; rintro _ wy ⟨rfl, hE⟩; replace hF := hF.exts hE; clear hE; refine Back.mk ?_) | (refine (hla _ (hF.gr (by repeat (first | exact memH | apply memT)) (by repeat (first | exact memH | apply memT)) (by repeat (first | exact memH | apply memT)))).mono ?_; rintro _ wy ⟨a, A, ka, hpa, rfl, hE, hs, hfr⟩; replace hF := Fr.swapD (Fr.addSm' hF hE hs hfr); clear hE hs hfr; refine Back.mk ?_) | (refine (hlb _ (hF.gr (by repeat (first | exact memH | apply memT)) (by repeat (first | exact memH | apply memT)) (by repeat (first | exact memH | apply memT)))).mono ?_; rintro _ wy ⟨b, B, kb, hpb, rfl, hE, hs, hfr⟩; replace hF := Fr.swapD (Fr.addSm' hF hE hs hfr); clear hE hs hfr; refine Back.mk ?_) | (refine (hca _ (hF.gr (by repeat (first | exact memH | apply memT)) (by repeat (first | exact memH | apply memT)) (by repeat (first | exact memH | apply memT)))).mono ?_; rintro _ wy ⟨rfl, hE, hG⟩; replace hF := Fr.callMp hF hE (.inr rfl) (nfC (nf_smG (hF.sm_mp (by repeat (first | exact memH | apply memT)) (by repeat (first | exact memH | apply memT)))) (nfC (nf_smG (hF.sm_mp (by repeat (first | exact memH | apply memT)) (by repeat (first | exact memH | apply memT)))) (nfC (nf_cb hgm) (nfC nf_gv nfN)))) hG.mp; replace hF := Fr.swapD (Fr.addGv hF hG.vals); clear hE hG; refine Back.mk ?_) | (refine (hcb _ (hF.gr (by repeat (first | exact memH | apply memT)) (by repeat (first | exact memH | apply memT)) (by repeat (first | exact memH | apply memT)))).mono ?_; rintro _ wy ⟨rfl, hE, hG⟩; replace hF := Fr.callMp hF hE (.inr rfl) (nfC nf_gv (nfC (nf_smG (hF.sm_mp (by repeat (first | exact memH | apply memT)) (by repeat (first | exact memH | apply memT)))) (nfC (nf_smG (hF.sm_mp (by repeat (first | exact memH | apply memT)) (by repeat (first | exact memH | apply memT)))) (nfC (nf_cb hgm) (nfC nf_gv nfN))))) hG.mp; clear hE hG; refine Back.mk ?_)) | (apply TL.ev; (case hd => rfl); (case h => (first | exact ev_simple rfl | (apply Ev.isBin; first | exact ev_eqlP rfl rfl rfl) | (apply Ev.isLoad; first | exact ev_loadCb hF rfl (by repeat (first | exact memH | apply memT)) rfl) | exact ev_len rfl | exact ev_fieldAddr rfl | exact ev_nilCheck rfl)))) | (refine T.is ?_; first | refine T.seq ?_ | refine T.region ?_ | refine T.block ?_ | refine T.cond_f rfl ?_ | refine T.skip ?_) | (refine G.is ?_; first | refine G.next ?_) | refine TL.nil ?_)
  have hal : a.length ≤ 1048576 := by have h1 := hpa.length_eq; have h2 := inRow_len i l; omega
  have hbl : b.length ≤ 1048576 := by have h1 := hpb.length_eq; have h2 := inRow_len j l; omega
  refine T.loop (α := Nat) (fun k => [(0, .pointer (some ⟨g, 0, none⟩)), (1, .int .i64 i), (2, .int .i64 j), (8, .slice B b.length kb), (45, .slice A a.length ka), (46, .int .i64 (a.length : Int)), (47, .int .i64 (k : Int))])
    (fun k w' => k ≤ a.length ∧ Fr w w' [] [dpMp spot ivA m (upl (outRow j (outRow i l)) (mvRow j (a.take k))), dpSmG 4 plc B b.length kb b, dpSmG 4 plc A a.length ka a, dpCb g 96 (grc r c m), dpGv l] (fun k => k = m)) (fun k => a.length - k) 0 (by repeat (first | exact Sub.nil _ | refine Sub.cons rfl ?_ | refine Sub.cons' rfl (int_congr (by omega)) ?_)) ⟨Nat.zero_le _, hF.weak (.refl _) (allH (by repeat (first | exact memH | apply memT)) (allH (by repeat (first | exact memH | apply memT)) (allH (by repeat (first | exact memH | apply memT)) (allH (by repeat (first | exact memH | apply memT)) (allH (by repeat (first | exact memH | apply memT)) allN)))))⟩ ?_
  clear hF
  rintro k w1 ⟨hk, hF⟩
  rcases Nat.lt_or_ge k a.length with hkn | hkn
  · obtain ⟨p, hp⟩ : ∃ p, a[k]? = some p := ⟨_, List.getElem?_eq_getElem hkn⟩
    repeat' (first | (refine TL.isOp ?_; first | (refine TL.isBin ?_; refine TL.cmpG rfl rfl rfl rfl (fun hc => ?_) (fun hc => ?_) <;> (try (first | (exfalso; omega) | exact absurd rfl hc))) | (apply TL.ev; (case hd => rfl); (case h => (first | exact ev_simple rfl | (apply Ev.isBin; first | exact ev_arN rfl rfl rfl (by omega)) | (apply Ev.isLoad; first | exact ev_loadMc [.int .i64 p.1.1, .int .i64 p.1.2, .bool p.2.neg, .slice p.2.m.A p.2.m.n p.2.m.c] rfl (Fr.smG hF (l := a) (by repeat (first | exact memH | apply memT))) hp rfl) | exact ev_indexM rfl rfl hkn (Fr.smG hF (l := a) (by repeat (first | exact memH | apply memT))).some))) | (refine TL.storeAFr hF rfl rfl rfl rfl (by refine ⟨?_, ?_⟩; (focus (repeat (first | apply SetV.head | apply SetV.tail))); rfl) rfl ?_; clear hF; intro ws hF) | (refine TL.allocFr hF (d := 10) rfl rfl ?_; clear hF; intro w10 b10 hF) | (refine TL.mupd hF (.inr rfl) (nfC (nf_smG (hF.sm_mp (by repeat (first | exact memH | apply memT)) (by repeat (first | exact memH | apply memT)))) (nfC (nf_smG (hF.sm_mp (by repeat (first | exact memH | apply memT)) (by repeat (first | exact memH | apply memT)))) (nfC (nf_cb hgm) (nfC nf_gv nfN)))) (q := (j, p.1.2)) (v := p.2) rfl rfl rfl ?_; clear hF; intro wd hF)) | (refine TF.is ?_; first | refine TF.nil ?_ | refine TF.e rfl ?_ | (refine TF.pick rfl ?_; first | (apply TFo.ev; (case hd => rfl); (case h => (intro wh hF; first | exact ev_simple rfl | (apply Ev.isLoad; first | exact ev_loadFr hF rfl (by refine ⟨?_, ?_⟩; (focus (repeat (first | exact InV.head | apply InV.tail))); rfl) | exact ev_loadAFr hF rfl (by refine ⟨?_, ?_⟩; (focus (repeat (first | exact InV.head | apply InV.tail))); rfl) | exact ev_loadCb hF rfl (by repeat (first | exact memH | apply memT)) rfl) | exact ev_fieldAddr rfl | exact ev_buildX rfl rfl | exact ev_nilCheck rfl))))) | (refine T.is ?_; first | refine T.seq ?_ | refine T.region ?_ | refine T.block ?_ | refine T.cond_t rfl ?_ | refine T.skip ?_ | (refine T.regionFr hF 9 10 (.s 0 (.s 1 (.s 2 (.s 3 (.s 4 (.s 5 (.s 6 (.s 7 (.s 8 (.s 9 (.e 10 .nil))))))))))) mixed (by kernel_rfl) ?_; clear hF; intro wr hF)) | (refine G.is ?_; first | refine G.next ?_ | refine G.blockN ?_ | refine G.only ?_ | refine G.treeEnd rfl ?_) | refine TL.nil ?_)
    refine G.again (k + 1) (by repeat (first | exact Sub.nil _ | refine Sub.cons rfl ?_ | refine Sub.cons' rfl (int_congr (by omega)) ?_)) ⟨hkn, ?_⟩ (by omega)
    rw [take_snoc hp, mvRow_snoc, upl_snoc]
    exact hF.weak (List.nil_sublist _) allR
  · rw [List.take_of_length_le hkn] at hF
    repeat' (first | (refine TL.isOp ?_; first | (refine TL.isBin ?_; refine TL.cmpG rfl rfl rfl rfl (fun hc => ?_) (fun hc => ?_) <;> (try (first | (exfalso; omega) | exact absurd rfl hc))) | (apply TL.ev; (case hd => rfl); (case h => (first | exact ev_simple rfl | exact ev_len rfl)))) | (refine T.is ?_; first | refine T.seq ?_ | refine T.region ?_ | refine T.block ?_ | refine T.cond_f rfl ?_ | refine T.exit ?_) | (refine G.is ?_; first | refine G.next ?_ | refine G.blockE ?_ | refine G.thenE ?_) | refine TL.nil ?_)
    refine T.loop (α := Nat) (fun k => [(0, .pointer (some ⟨g, 0, none⟩)), (1, .int .i64 i), (2, .int .i64 j), (62, .slice B b.length kb), (63, .int .i64 (b.length : Int)), (64, .int .i64 (k : Int))])
      (fun k w' => k ≤ b.length ∧ Fr w w' [] [dpMp spot ivA m (upl (upl (outRow j (outRow i l)) (mvRow j a)) (mvRow i (b.take k))), dpSmG 4 plc B b.length kb b, dpSmG 4 plc A a.length ka a, dpCb g 96 (grc r c m), dpGv l] (fun k => k = m)) (fun k => b.length - k) 0 (by repeat (first | exact Sub.nil _ | refine Sub.cons rfl ?_ | refine Sub.cons' rfl (int_congr (by omega)) ?_)) ⟨Nat.zero_le _, hF.weak (.refl _) (allH (by repeat (first | exact memH | apply memT)) (allH (by repeat (first | exact memH | apply memT)) (allH (by repeat (first | exact memH | apply memT)) (allH (by repeat (first | exact memH | apply memT)) (allH (by repeat (first | exact memH | apply memT)) allN)))))⟩ ?_
    clear hF
    rintro k w1 ⟨hk, hF⟩
    rcases Nat.lt_or_ge k b.length with hkn | hkn
    · obtain ⟨p, hp⟩ : ∃ p, b[k]? = some p := ⟨_, List.getElem?_eq_getElem hkn⟩
      repeat' (first | (refine TL.isOp ?_; first | (refine TL.isBin ?_; refine TL.cmpG rfl rfl rfl rfl (fun hc => ?_) (fun hc => ?_) <;> (try (first | (exfalso; omega) | exact absurd rfl hc))) | (apply TL.ev; (case hd => rfl); (case h => (first | exact ev_simple rfl | (apply Ev.isBin; first | exact ev_arN rfl rfl rfl (by omega)) | (apply Ev.isLoad; first | exact ev_loadMc [.int .i64 p.1.1, .int .i64 p.1.2, .bool p.2.neg, .slice p.2.m.A p.2.m.n p.2.m.c] rfl (Fr.smG hF (l := b) (by repeat (first | exact memH | apply memT))) hp rfl) | exact ev_indexM rfl rfl hkn (Fr.smG hF (l := b) (by repeat (first | exact memH | apply memT))).some))) | (refine TL.storeAFr hF rfl rfl rfl rfl (by refine ⟨?_, ?_⟩; (focus (repeat (first | apply SetV.head | apply SetV.tail))); rfl) rfl ?_; clear hF; intro ws hF) | (refine TL.allocFr hF (d := 12) rfl rfl ?_; clear hF; intro w12 b12 hF) | (refine TL.mupd hF (.inr rfl) (nfC (nf_smG (hF.sm_mp (by repeat (first | exact memH | apply memT)) (by repeat (first | exact memH | apply memT)))) (nfC (nf_smG (hF.sm_mp (by repeat (first | exact memH | apply memT)) (by repeat (first | exact memH | apply memT)))) (nfC (nf_cb hgm) (nfC nf_gv nfN)))) (q := (i, p.1.2)) (v := p.2) rfl rfl rfl ?_; clear hF; intro wd hF)) | (refine TF.is ?_; first | refine TF.nil ?_ | refine TF.e rfl ?_ | (refine TF.pick rfl ?_; first | (apply TFo.ev; (case hd => rfl); (case h => (intro wh hF; first | exact ev_simple rfl | (apply Ev.isLoad; first | exact ev_loadFr hF rfl (by refine ⟨?_, ?_⟩; (focus (repeat (first | exact InV.head | apply InV.tail))); rfl) | exact ev_loadAFr hF rfl (by refine ⟨?_, ?_⟩; (focus (repeat (first | exact InV.head | apply InV.tail))); rfl) | exact ev_loadCb hF rfl (by repeat (first | exact memH | apply memT)) rfl) | exact ev_fieldAddr rfl | exact ev_buildX rfl rfl | exact ev_nilCheck rfl))))) | (refine T.is ?_; first | refine T.seq ?_ | refine T.region ?_ | refine T.block ?_ | refine T.cond_t rfl ?_ | refine T.skip ?_ | (refine T.regionFr hF 14 10 (.s 0 (.s 1 (.s 2 (.s 3 (.s 4 (.s 5 (.s 6 (.s 7 (.s 8 (.s 9 (.e 10 .nil))))))))))) mixed (by kernel_rfl) ?_; clear hF; intro wr hF)) | (refine G.is ?_; first | refine G.next ?_ | refine G.blockN ?_ | refine G.only ?_ | refine G.treeEnd rfl ?_) | refine TL.nil ?_)
      refine G.again (k + 1) (by repeat (first | exact Sub.nil _ | refine Sub.cons rfl ?_ | refine Sub.cons' rfl (int_congr (by omega)) ?_)) ⟨hkn, ?_⟩ (by omega)
      rw [take_snoc hp, mvRow_snoc, upl_snoc]
      exact hF.weak (List.nil_sublist _) allR
    · rw [List.take_of_length_le hkn] at hF
      repeat' (first | (refine TL.isOp ?_; first | (refine TL.isBin ?_; refine TL.cmpG rfl rfl rfl rfl (fun hc => ?_) (fun hc => ?_) <;> (try (first | (exfalso; omega) | exact absurd rfl hc))) | (apply TL.ev; (case hd => rfl); (case h => (first | exact ev_simple rfl)))) | (refine T.is ?_; first | refine T.seq ?_ | refine T.region ?_ | refine T.cond_f rfl ?_ | refine T.exit ?_ | refine T.ret ?_) | (refine G.is ?_; first | refine G.next ?_ | refine G.blockE ?_ | refine G.thenE ?_) | refine TL.nil ?_)
      have hv := hF.gv (by repeat (first | exact memH | apply memT))
      refine G.ret1 rfl rfl ⟨_, ⟨rfl, hF.exs, ?_⟩, lkp_swap hn hpa hpb⟩
      refine ⟨(by have := hF.data _ (show dpCb g 96 (grc r c m) ∈ _ from (by repeat (first | exact memH | apply memT))); unfold dpCb at this; exact this), hF.mp (by repeat (first | exact memH | apply memT)), fun p hp => ?_⟩
      have h3 := lkp_of_mem (upl_nodup (upl_nodup (outRow_nodup (i := j) (outRow_nodup (i := i) hn)) _) _) (x := p.1) (v := p.2) hp
      have h4 := lkp_swap hn hpa hpb p.1.1 p.1.2
      rw [show ((p.1.1, p.1.2) : Int × Int) = p.1 from rfl, h3] at h4
      have h5 := hF.data _ (show dpGv l ∈ _ from (by repeat (first | exact memH | apply memT)))
      unfold dpGv at h5
      exact h5 ((swp i j p.1.1, p.1.2), p.2) (lkp_mem h4.symm)
theorem gswap_bad (w : World) (g m r c : Nat) (l : GL) (i j : Int) (hG : Gr w.heap g m r c l) (h : ¬ ((0 ≤ i ∧ i < (r : Int)) ∧ (0 ≤ j ∧ j < (r : Int)))) :
    Cl Try.prog 36 #[.pointer (some ⟨g, 0, none⟩), .int .i64 i, .int .i64 j] w (fun e w' => e = .returned (.int .i64 3) ∧ Ext w w') := by
  have hF := Gr.fr hG fun _ => False
  clear hG
  by_cases h0 : 0 ≤ i ∧ i < (r : Int)
  · have h1 := fun w1 => in_t w1 i r h0
    have h2 := fun w1 => in_f w1 j r fun hh => h ⟨h0, hh⟩
    clear h h0
    refine enter Try.func36 rfl rfl rfl ?_
    repeat' (first | (refine TL.isOp ?_; first | (refine TL.isG ?_; first | refine TL.grun rfl rfl rfl ?_) | (refine TL.isCall ?_; refine TL.call rfl rfl ?_; first | (refine (h1 _).mono ?_; rintro _ wy ⟨rfl, hE⟩; replace hF := hF.exts hE; clear hE; refine Back.mk ?_) | (refine (h2 _).mono ?_; rintro _ wy ⟨rfl, hE⟩; replace hF := hF.exts hE; clear hE; refine Back.mk ?_)) | (apply TL.ev; (case hd => rfl); (case h => (first | exact ev_simple rfl | (apply Ev.isBin; first | exact ev_eqlP rfl rfl rfl) | (apply Ev.isLoad; first | exact ev_loadCb hF rfl (by repeat (first | exact memH | apply memT)) rfl) | exact ev_fieldAddr rfl | exact ev_nilCheck rfl)))) | (refine T.is ?_; first | refine T.seq ?_ | refine T.region ?_ | refine T.cond_t rfl ?_ | refine T.ret ?_) | (refine G.is ?_; first | refine G.next ?_ | refine G.thenR ?_) | refine TL.nil ?_)
    all_goals exact G.ret1 rfl rfl ⟨rfl, hF.ext⟩
  · have h1 := fun w1 => in_f w1 i r h0
    clear h h0
    refine enter Try.func36 rfl rfl rfl ?_
    repeat' (first | (refine TL.isOp ?_; first | (refine TL.isG ?_; first | refine TL.grun rfl rfl rfl ?_ | refine TL.gskip rfl rfl rfl rfl ?_) | (refine TL.isCall ?_; refine TL.call rfl rfl ?_; first | (refine (h1 _).mono ?_; rintro _ wy ⟨rfl, hE⟩; replace hF := hF.exts hE; clear hE; refine Back.mk ?_)) | (apply TL.ev; (case hd => rfl); (case h => (first | exact ev_simple rfl | (apply Ev.isBin; first | exact ev_eqlP rfl rfl rfl) | (apply Ev.isLoad; first | exact ev_loadCb hF rfl (by repeat (first | exact memH | apply memT)) rfl) | exact ev_fieldAddr rfl | exact ev_nilCheck rfl)))) | (refine T.is ?_; first | refine T.seq ?_ | refine T.region ?_ | refine T.cond_t rfl ?_ | refine T.ret ?_) | (refine G.is ?_; first | refine G.next ?_ | refine G.thenR ?_) | refine TL.nil ?_)
    all_goals exact G.ret1 rfl rfl ⟨rfl, hF.ext⟩
end Go.Proofs.Ytlpheckjogphmaa

set_option linter.unusedSectionVars false
namespace Go.Eng
open Go Go.Proofs Go.NatM Go.RowKit Go.Proofs.Ytlpheckjogphmaa
/-- lo holds what done holds, at the places that t names -/
def Lk (t : Int × Int → Int × Int) (done lo : GL) : Prop := lo.map (fun p => (p.1, ival p.2)) = done.map (fun p => (t p.1, ival p.2))
/-- a place's number, if it is there -/
def zk (l : GL) (k : Int × Int) : Option Int := (lkp l k).map ival
theorem Lk.keys {t : Int × Int → Int × Int} {done lo : GL} (h : Lk t done lo) : lo.map (·.1) = done.map (fun p => t p.1) := by
  have := congrArg (List.map Prod.fst) h
  simpa [List.map_map, Function.comp_def] using this
theorem Lk.snoc {t : Int × Int → Int × Int} {done lo : GL} (h : Lk t done lo) {p : (Int × Int) × IV} {y : IV} (e : ival y = ival p.2) : Lk t (done ++ [p]) (lo ++ [(t p.1, y)]) := by
  unfold Lk at h ⊢
  rw [List.map_append, List.map_append, h]
  simp [e]
theorem Lk.zk {t : Int × Int → Int × Int} (ht : ∀ a b, t a = t b → a = b) {done lo : GL} (h : Lk t done lo) (k : Int × Int) : zk lo (t k) = Go.Eng.zk done k := by
  induction lo generalizing done with
  | nil =>
    cases done with
    | nil => rfl
    | cons p done => simp [Lk] at h
  | cons q lo ih =>
    cases done with
    | nil => simp [Lk] at h
    | cons p done =>
      obtain ⟨qk, qv⟩ := q
      obtain ⟨pk, pv⟩ := p
      simp only [Lk, List.map_cons, List.cons.injEq, Prod.mk.injEq] at h
      have ih := ih (done := done) h.2
      unfold Go.Eng.zk at ih ⊢
      simp only [lkp]
      by_cases hk : pk = k
      · subst hk
        rw [if_pos h.1.1, if_pos rfl]
        simp [h.1.2]
      · rw [if_neg (fun e => hk (ht _ _ (h.1.1.symm.trans e))), if_neg hk]
        exact ih
theorem Lk.new {t : Int × Int → Int × Int} (ht : ∀ a b, t a = t b → a = b) {l done lo todo : GL} {p : (Int × Int) × IV} (h : Lk t done lo) (hn : (l.map (·.1)).Nodup) (hp : l.Perm (done ++ [p] ++ todo)) : t p.1 ∉ lo.map (·.1) := by
  rw [h.keys]
  intro hm
  obtain ⟨q, hq, e⟩ := List.mem_map.1 hm
  have h1 : ((done ++ [p] ++ todo).map (·.1)).Nodup := ((hp.map _).nodup_iff).1 hn
  rw [List.map_append, List.map_append] at h1
  have h2 := (List.nodup_append.1 h1).1
  have h3 := (List.nodup_append.1 h2).2.2 _ (List.mem_map.2 ⟨q, hq, rfl⟩) p.1 (by simp)
  exact h3 (ht _ _ e)
theorem Lk.len {t : Int × Int → Int × Int} {done lo : GL} (h : Lk t done lo) : lo.length = done.length := by
  have := congrArg List.length h
  simpa using this
section
variable {S : Nat → Prop} {w0 w w' : World} {L : List VB} {D : List DP}
/-- a place more -/
theorem Fr.gvSnoc {lo : GL} {q : Int × Int} {y : IV} {z : Int} (hF : Fr w0 w L D S) (h1 : dpGv lo ∈ D) (hy : LI w.heap z y) (hn : y.m.n ≤ 16384) : Fr w0 w L (dpGv (lo ++ [(q, y)]) :: D) S := by
  have h6 := hF.data _ h1
  unfold dpGv at h6
  refine Fr.addGv hF fun p hp => ?_
  rcases List.mem_append.1 hp with hp | hp
  · exact h6 p hp
  · simp only [List.mem_cons, List.not_mem_nil, or_false] at hp
    subst hp
    exact ⟨hy.val.symm ▸ hy, hn⟩
end
def idk (k : Int × Int) : Int × Int := k
theorem idk_inj (a b : Int × Int) (h : idk a = idk b) : a = b := h
end Go.Eng
namespace Go.Proofs.Ytlpheckjogphmaa
open Go Go.Eng Go.Proofs Go.NatM Go.RowKit

theorem pm_mem {α : Type} {l a b b' : List α} {p : α} (h : l.Perm (a ++ b)) (k : b.Perm (p :: b')) : p ∈ l := h.mem_iff.2 (List.mem_append_right _ (k.mem_iff.2 (List.mem_cons_self ..)))
end Go.Proofs.Ytlpheckjogphmaa

set_option linter.unusedSectionVars false
namespace Go.Eng
open Go Go.Proofs Go.NatM Go.RowKit Go.Proofs.Ytlpheckjogphmaa
/-- the number at a place; 0 where nothing stands -/
def zv (l : GL) (k : Int × Int) : Int := ival (at0 l k)
/-- nothing that stands is 0 -/
def NZ (l : GL) : Prop := ∀ p ∈ l, ival p.2 ≠ 0
def bigZ (z : Int) : Prop := 1048576 < bl z.natAbs
theorem ival_nat (x : IV) : (ival x).natAbs = NatM.val x.m.l := by unfold ival; exact sgn_abs ..
theorem big_iff (x : IV) : big x ↔ bigZ (ival x) := by unfold big bigZ; rw [ival_nat]
theorem zv_none {l : GL} {k : Int × Int} (h : lkp l k = none) : zv l k = 0 := by unfold zv at0; rw [h]; rfl
theorem zv_some {l : GL} {k : Int × Int} {y : IV} (h : lkp l k = some y) : zv l k = ival y := by unfold zv at0; rw [h]; rfl
theorem zv_zk {l : GL} {k : Int × Int} : zv l k = (zk l k).getD 0 := by
  unfold zk
  cases h : lkp l k with
  | none => rw [zv_none h]; rfl
  | some y => rw [zv_some h]; rfl
theorem NZ.iff {l : GL} (h : NZ l) (k : Int × Int) : (lkp l k).isSome = true ↔ zv l k ≠ 0 := by
  cases hq : lkp l k with
  | none => simp [zv_none hq]
  | some y => rw [zv_some hq]; simp; exact h _ (lkp_mem hq)
theorem NZ.keys {l : GL} (h : NZ l) (k : Int × Int) : k ∈ l.map (·.1) ↔ zv l k ≠ 0 := by
  rw [← h.iff k]
  cases hq : lkp l k with
  | none => simp [lkp_none.1 hq]
  | some y => simp; exact ⟨y, lkp_mem hq⟩
/-- one function, one number of places -/
theorem NZ.len {l l' : GL} (h : NZ l) (h' : NZ l') (hn : (l.map (·.1)).Nodup) (hn' : (l'.map (·.1)).Nodup) (e : ∀ k, zv l k = zv l' k) : l.length = l'.length := by
  have hp : (l.map (·.1)).Perm (l'.map (·.1)) := (List.perm_ext_iff_of_nodup hn hn').2 fun k => by rw [h.keys, h'.keys, e]
  simpa using hp.length_eq
theorem NZ.sub {l l' : GL} (h : NZ l) (hs : ∀ p ∈ l', p ∈ l) : NZ l' := fun p hm => h p (hs p hm)
/-- a place's turn: taken away if it is 0 -/
def putL (l : GL) (k : Int × Int) (y : IV) : GL := if ival y = 0 then del l k else ups l k y
theorem putL_nodup {l : GL} (hn : (l.map (·.1)).Nodup) (k : Int × Int) (y : IV) : ((putL l k y).map (·.1)).Nodup := by
  unfold putL; split
  · exact del_nodup hn k
  · exact ups_nodup hn k y
theorem zv_putL {l : GL} (hn : (l.map (·.1)).Nodup) (k : Int × Int) (y : IV) (x : Int × Int) : zv (putL l k y) x = if k = x then ival y else zv l x := by
  unfold putL zv at0
  split
  · rename_i h
    rw [lkp_del hn]
    by_cases hk : k = x
    · simp [hk, h]; rfl
    · simp [hk]
  · rw [lkp_ups]
    by_cases hk : k = x <;> simp [hk]
theorem lkp_putL {l : GL} (hn : (l.map (·.1)).Nodup) (k : Int × Int) (y : IV) (x : Int × Int) (hk : k ≠ x) : lkp (putL l k y) x = lkp l x := by
  unfold putL
  split
  · rw [lkp_del hn, if_neg hk]
  · rw [lkp_ups, if_neg hk]
theorem NZ.put {l : GL} (h : NZ l) (k : Int × Int) (y : IV) : NZ (putL l k y) := by
  unfold putL
  split
  · exact h.sub fun p hp => (del_sub l k).subset hp
  · rename_i hy
    intro p hp
    rcases ups_mem hp with rfl | hp
    · exact hy
    · exact h p hp
theorem putL_mem {l : GL} {k : Int × Int} {y : IV} {p : (Int × Int) × IV} (hp : p ∈ putL l k y) : p = (k, y) ∨ p ∈ l := by
  unfold putL at hp
  split at hp
  · exact .inr ((del_sub l k).subset hp)
  · exact ups_mem hp
theorem putL_len (l : GL) (k : Int × Int) (y : IV) : ((putL l k y).length : Int) = (l.length : Int) - (if (lkp l k).isSome then 1 else 0) + (if ival y ≠ 0 then 1 else 0) := by
  unfold putL
  split
  · rename_i h
    rw [del_length]
    cases hq : lkp l k with
    | none => simp [h]
    | some v =>
      have := List.length_pos_of_mem (lkp_mem hq)
      simp [h]; omega
  · rename_i h
    rw [ups_length]
    cases hq : lkp l k <;> simp [h] <;> omega
theorem zv_outRow (i : Int) (l : GL) (x y : Int) : zv (outRow i l) (x, y) = if x = i then 0 else zv l (x, y) := by
  unfold zv at0
  rw [lkp_outRow]
  by_cases h : x = i <;> simp [h]; rfl
theorem zv_snoc {l : GL} {p : (Int × Int) × IV} (h : p.1 ∉ l.map (·.1)) (x : Int × Int) : zv (l ++ [p]) x = if p.1 = x then ival p.2 else zv l x := by
  have := ups_new h p.2
  unfold zv at0
  rw [← this, lkp_ups]
  by_cases hk : p.1 = x <;> simp [hk]
/-- a grid's numbers are not too long -/
theorem small_of {H : Array Obj} {y : IV} {z : Int} (h : LI H z y) (hn : y.m.n ≤ 16384) : ¬ bigZ z := by
  unfold bigZ
  have h1 := h.val
  have h2 : z.natAbs < 18446744073709551616 ^ y.m.n := by
    rw [← h1, ival_nat]
    have := val_lt h.g.u
    rwa [h.g.s.len] at this
  have h3 : z.natAbs < 2 ^ (64 * y.m.n) := by rw [Nat.pow_mul]; exact h2
  have h4 := bl_le.2 h3
  omega
theorem bigZ_zero : ¬ bigZ 0 := by unfold bigZ; rw [show bl (Int.natAbs 0) = 0 from rfl]; omega
theorem gv_small {H : Array Obj} {l : GL} (h : ∀ p ∈ l, LI H (ival p.2) p.2 ∧ p.2.m.n ≤ 16384) (k : Int × Int) : ¬ bigZ (zv l k) := by
  cases hq : lkp l k with
  | none => rw [zv_none hq]; exact bigZ_zero
  | some y => rw [zv_some hq]; have := h _ (lkp_mem hq); exact small_of this.1 this.2
theorem few_of {H : Array Obj} {y : IV} {z : Int} (h : LI H z y) (hb : ¬ bigZ z) : y.m.n ≤ 16384 := by
  rw [← h.g.s.len, h.d]
  refine words_bl ?_
  unfold bigZ at hb
  omega
end Go.Eng
namespace Go.Proofs.Ytlpheckjogphmaa
open Go Go.Eng Go.Proofs Go.NatM Go.RowKit
theorem gput_ok (w : World) (g m r c : Nat) (l : GL) (p : Int × Int) (x : IV) (z : Int) (hG : Gr w.heap g m r c l) (hx : LI w.heap z x) (hn : x.m.n ≤ 16384) :
    Cl Try.prog 49 #[.pointer (some ⟨g, 0, none⟩), spot p, ivA x] w (RetW w g m r c (putL l p x) (.tuple #[])) := by
  have e := hx.val
  unfold putL
  rw [e]
  by_cases hz : z = 0
  · rw [if_pos hz]; subst hz; exact gput_zero w g m r c l p x hG hx hn
  · rw [if_neg hz]; exact gput_put w g m r c l p x z hG hx hn hz
end Go.Proofs.Ytlpheckjogphmaa

set_option linter.unusedSectionVars false
namespace Go.Eng
open Go Go.Proofs Go.NatM Go.RowKit Go.Proofs.Ytlpheckjogphmaa
section
variable {S : Nat → Prop} {w0 w w' : World} {L : List VB} {D : List DP}
end
/-- the step of a sum -/
theorem add_step {l l2 done todo lo : GL} {p : (Int × Int) × IV} {y : IV} (hn2 : (l2.map (·.1)).Nodup) (hno : (lo.map (·.1)).Nodup) (hp : l2.Perm (done ++ [p] ++ todo)) (h : ∀ k, zv lo k = zv l k + zv done k) (hy : ival y = zv lo p.1 + ival p.2) : ∀ k, zv (putL lo p.1 y) k = zv l k + zv (done ++ [p]) k := by
  have hd : p.1 ∉ done.map (·.1) := by
    have h1 : ((done ++ [p] ++ todo).map (·.1)).Nodup := ((hp.map _).nodup_iff).1 hn2
    rw [List.map_append, List.map_append] at h1
    have h2 := (List.nodup_append.1 (List.nodup_append.1 h1).1).2.2
    exact fun hm => h2 _ hm p.1 (by simp) rfl
  intro k
  rw [zv_putL hno, zv_snoc hd, hy]
  by_cases hk : p.1 = k
  · subst hk
    have h0 : zv done p.1 = 0 := zv_none (lkp_none.2 hd)
    simp [h, h0]
  · simp [hk, h]
end Go.Eng
namespace Go.Proofs.Ytlpheckjogphmaa
open Go Go.Eng Go.Proofs Go.NatM Go.RowKit

/-- what is refused -/
def Refu (Z : Int × Int → Int) : Prop := (∃ k, bigZ (Z k)) ∨ ∃ l' : GL, NZ l' ∧ (l'.map (·.1)).Nodup ∧ (∀ k, zv l' k = Z k) ∧ 4096 < l'.length
def RetLg (w : World) (er : Int) (e : Ending) (w' : World) : Prop := e = .returned (.tuple #[.pointer none, .int .i64 er]) ∧ Ext w w'
theorem long_t (w : World) (x : IV) (g : GI w.heap x) (hn : x.m.n ≤ 1099511627776) (h : bigZ (ival x)) : Cl Try.prog 46 #[ivA x] w (fun e w' => e = .returned (.bool true) ∧ Ext w w') := long_ok w x g hn true ⟨fun _ => (big_iff x).2 h, fun _ => rfl⟩
theorem long_f (w : World) (x : IV) (g : GI w.heap x) (hn : x.m.n ≤ 1099511627776) (h : ¬ bigZ (ival x)) : Cl Try.prog 46 #[ivA x] w (fun e w' => e = .returned (.bool false) ∧ Ext w w') := long_ok w x g hn false ⟨fun h => (by cases h), fun hb => absurd ((big_iff x).1 hb) h⟩
end Go.Proofs.Ytlpheckjogphmaa

set_option linter.unusedSectionVars false
namespace Go.Eng
open Go Go.Proofs Go.NatM Go.RowKit Go.Proofs.Ytlpheckjogphmaa
/-- a list's places laid into row i -/
def apl (i : Int) (l nw : GL) : GL := nw.foldl (fun l p => putL l (i, p.1.2) p.2) l
theorem apl_snoc (i : Int) (l nw : GL) (p : (Int × Int) × IV) : apl i l (nw ++ [p]) = putL (apl i l nw) (i, p.1.2) p.2 := by simp [apl, List.foldl_append]
theorem apl_nodup (i : Int) {l : GL} (hn : (l.map (·.1)).Nodup) : ∀ (nw : GL), ((apl i l nw).map (·.1)).Nodup := fun nw => by
  induction nw generalizing l with
  | nil => exact hn
  | cons p nw ih => exact ih (putL_nodup hn _ _)
theorem apl_NZ (i : Int) {l : GL} (h : NZ l) : ∀ (nw : GL), NZ (apl i l nw) := fun nw => by
  induction nw generalizing l with
  | nil => exact h
  | cons p nw ih => exact ih (h.put _ _)
theorem apl_mem (i : Int) {l nw : GL} {p : (Int × Int) × IV} (h : p ∈ apl i l nw) : p ∈ l ∨ ∃ q ∈ nw, p.2 = q.2 := by
  induction nw generalizing l with
  | nil => exact .inl h
  | cons q nw ih =>
    rcases ih h with h | ⟨q', hq, e⟩
    · rcases putL_mem h with rfl | h
      · exact .inr ⟨q, List.mem_cons_self .., rfl⟩
      · exact .inl h
    · exact .inr ⟨q', List.mem_cons_of_mem _ hq, e⟩
theorem apl_lkp (i : Int) {l : GL} (hn : (l.map (·.1)).Nodup) {y : Int} : ∀ {nw : GL}, (∀ q ∈ nw, q.1.2 ≠ y) → lkp (apl i l nw) (i, y) = lkp l (i, y) := fun {nw} h => by
  induction nw generalizing l with
  | nil => rfl
  | cons q nw ih =>
    show lkp (apl i (putL l (i, q.1.2) q.2) nw) (i, y) = _
    rw [ih (putL_nodup hn _ _) fun q' hq => h q' (List.mem_cons_of_mem _ hq), lkp_putL hn]
    intro e
    simp only [Prod.mk.injEq, true_and] at e
    exact h q (List.mem_cons_self ..) e
theorem zv_apl {i j : Int} : ∀ {nw l : GL}, (l.map (·.1)).Nodup → (nw.map (·.1)).Nodup → (∀ p ∈ nw, p.1.1 = j) → ∀ x y, zv (apl i l nw) (x, y) = if x = i then (match lkp nw (j, y) with | some v => ival v | none => zv l (i, y)) else zv l (x, y)
  | [], l, _, _, _, x, y => by
    by_cases h : x = i
    · subst h; simp [apl, lkp]
    · simp [apl, h]
  | p :: nw, l, hn, hnn, hj, x, y => by
    simp only [List.map_cons, List.nodup_cons] at hnn
    show zv (apl i (putL l (i, p.1.2) p.2) nw) (x, y) = _
    rw [zv_apl (putL_nodup hn _ _) hnn.2 (fun q hq => hj q (List.mem_cons_of_mem _ hq)), zv_putL hn, zv_putL hn]
    have hp := hj p (List.mem_cons_self ..)
    obtain ⟨⟨p1, p2⟩, pv⟩ := p
    simp only at hp
    subst hp
    by_cases hx : x = i
    · subst hx
      simp only [if_true, lkp, Prod.mk.injEq, true_and]
      by_cases hy : p2 = y
      · subst hy
        rw [lkp_none.2 hnn.1]; simp
      · simp [hy]
    · have : ¬ i = x := fun e => hx e.symm
      simp [hx, this]
/-- two lists that tell alike -/
theorem lkp_map_eq {K V W A : Type} [DecidableEq K] {f : K × V → A} {g : K × W → A} : ∀ {l1 : List (K × V)} {l2 : List (K × W)}, l1.map (fun p => (p.1, f p)) = l2.map (fun p => (p.1, g p)) → ∀ k, (lkp l1 k).map (fun v => f (k, v)) = (lkp l2 k).map (fun v => g (k, v))
  | [], [], _, k => rfl
  | [], _ :: _, h, _ => by simp at h
  | _ :: _, [], h, _ => by simp at h
  | (a, u) :: l1, (b, v) :: l2, h, k => by
    simp only [List.map_cons, List.cons.injEq, Prod.mk.injEq] at h
    obtain ⟨⟨rfl, h1⟩, h2⟩ := h
    simp only [lkp]
    by_cases hk : a = k
    · subst hk; simp [h1]
    · simp only [hk, if_false]; exact lkp_map_eq h2 k
/-- k times row j added to row i -/
def rowZ (l : GL) (i j kv : Int) (k : Int × Int) : Int := if k.1 = i then zv l (i, k.2) + kv * zv l (j, k.2) else zv l k
/-- the new numbers of a row -/
def NewR (l : GL) (i kv : Int) (l' nw : GL) : Prop := nw.map (fun p => (p.1, ival p.2)) = l'.map (fun p => (p.1, kv * ival p.2 + zv l (i, p.1.2)))
theorem NewR.keys {l l' nw : GL} {i kv : Int} (h : NewR l i kv l' nw) : nw.map (·.1) = l'.map (·.1) := by
  have := congrArg (List.map Prod.fst) h
  simpa [List.map_map, Function.comp_def] using this
theorem NewR.snoc {l l' nw : GL} {i kv : Int} (h : NewR l i kv l' nw) {p : (Int × Int) × IV} {y : IV} (e : ival y = kv * ival p.2 + zv l (i, p.1.2)) : NewR l i kv (l' ++ [p]) (nw ++ [(p.1, y)]) := by
  unfold NewR at h ⊢
  rw [List.map_append, List.map_append, h]
  simp [e]
theorem NewR.zv {l l' nw : GL} {i j kv : Int} (hn : (l.map (·.1)).Nodup) (hp : l'.Perm (inRow j l)) (h : NewR l i kv l' nw) (k : Int × Int) : zv (apl i l nw) k = rowZ l i j kv k := by
  have hn' : (l'.map (·.1)).Nodup := ((hp.map _).nodup_iff).2 (hn.sublist (List.filter_sublist.map _))
  have hnw : (nw.map (·.1)).Nodup := by rw [h.keys]; exact hn'
  have hj : ∀ p ∈ nw, p.1.1 = j := fun p hm => by
    have : p.1 ∈ l'.map (·.1) := by rw [← h.keys]; exact List.mem_map.2 ⟨p, hm, rfl⟩
    obtain ⟨q, hq, e⟩ := List.mem_map.1 this
    rw [← e]; exact (mem_inRow.1 (hp.mem_iff.1 hq)).2
  obtain ⟨x, y⟩ := k
  rw [zv_apl hn hnw hj]
  unfold rowZ
  by_cases hx : x = i
  · subst hx
    simp only [if_true]
    have h1 := lkp_map_eq (K := Int × Int) (V := IV) (W := IV) (f := fun p => ival p.2) (g := fun p => kv * ival p.2 + Go.Eng.zv l (x, p.1.2)) h (j, y)
    rw [lkp_perm hn' hp, lkp_inRow] at h1
    simp only [if_true] at h1
    cases hq : lkp l (j, y) with
    | none =>
      rw [hq] at h1
      cases hr : lkp nw (j, y) with
      | none => rw [zv_none hq]; simp
      | some v => rw [hr] at h1; cases h1
    | some u =>
      rw [hq] at h1
      cases hr : lkp nw (j, y) with
      | none => rw [hr] at h1; cases h1
      | some v =>
        rw [hr] at h1
        simp only [Option.map_some, Option.some.injEq] at h1
        rw [zv_some hq]
        simp only [h1]; omega
  · simp [hx]
/-- behind a writing of a place's integer -/
theorem putO_plc : ∀ {l : GL} {k : Nat} {p : (Int × Int) × IV} (y : IV) (zs : List Value), l[k]? = some p → putO (l.flatMap plc ++ zs) (k * 4 + 2) [.bool y.neg, .slice y.m.A y.m.n y.m.c] = some ((l.set k (p.1, y)).flatMap plc ++ zs)
  | [], k, p, y, zs, h => by simp at h
  | q :: l, 0, p, y, zs, h => by
    simp only [List.getElem?_cons_zero, Option.some.injEq] at h
    subst h
    simp [plc, putO]
  | q :: l, k + 1, p, y, zs, h => by
    simp only [List.getElem?_cons_succ] at h
    have ih := putO_plc (l := l) y zs h
    have e : (k + 1) * 4 + 2 = (k * 4 + 2) + 1 + 1 + 1 + 1 := by omega
    rw [e]
    simp only [List.flatMap_cons, plc, List.cons_append, List.nil_append, List.append_assoc, putO, List.set_cons_succ]
    rw [ih]
section
variable {P : Program} {N : Fm} {Q : Exit → Act → World → Prop} {σ : Go.Eng.Store} {S : Nat → Prop} {w0 w : World} {L : List VB} {D : List DP} {ops : Array Oper} {t : TypeId} {pos : String} {af : Array Edge} {rest : List Oper}
theorem TL.storePl (hF : Fr w0 w L D S) {x y : Operand} {ty e : TypeId} {z : Value} {b1 : Nat} [hS : USize P ty z 2 b1] {b k : Nat} {l : GL} {zs : List Value} {p : (Int × Int) × IV} (v : IV) {L' : List VB}
    (hx : Go.Eng.look σ x = some (.pointer (elemA (some ⟨b, 0, none⟩) (k * 4 + 2)))) (hy : Go.Eng.look σ y = some (ivA v)) (hk : l[k]? = some p) (hz : zs.all noU64 = true)
    (hL : SetV L b e (l.flatMap plc ++ zs) ((l.set k (p.1, v)).flatMap plc ++ zs) L') (K : ∀ w', Fr w0 w' L' D S → TL P N .seq ops Q rest σ w') : TL P N .seq ops Q (⟨none, .store ty x y, t, pos, af, none⟩ :: rest) σ w := by
  have hx' : Go.Eng.look σ x = some (.pointer (some ⟨b, k * 4 + 2, none⟩)) := by rw [hx]; unfold elemA; simp [add_mk]
  exact TL.storeVA (vs := [.bool v.neg, .slice v.m.A v.m.n v.m.c]) hx' hy rfl rfl (hF.var hL.inV) (putO_plc v zs hk) fun w' h1 h2 => K w' (hF.store hL (plc_no l hz) h2 h1)
end
theorem pb_sm {S : Nat → Prop} {w0 w : World} {L : List VB} {D : List DP} {b c n : Nat} {l : GL} {zs : List Value} (hF : Fr w0 w L D S) (h : InV L b 46 (l.flatMap plc ++ zs)) (hn : l.length = n) (hc : n ≤ c) : Sm 4 plc w.heap w.heap.size (some ⟨b, 0, none⟩) n c l := by
  have hV := hF.var h
  exact vr_sm (by decide) (fun _ _ => rfl) hV hn hc hV.lt
section
variable {S : Nat → Prop} {w0 w : World} {L : List VB} {D : List DP}
/-- a list of places that is written no more -/
theorem Fr.lvSm {l : GL} {pb : PB} (hF : Fr w0 w (lvb l pb ++ L) D S) (h : PBok l pb) : Fr w0 w L (dpSmG 4 plc (slA pb) l.length (slC pb) l :: D) S := by
  have hw := hF.weak (L := L) (D := D) (List.sublist_append_right _ _) allR
  cases pb with
  | none =>
    have e : l = [] := h
    subst e
    refine hw.add _ (by unfold dpSmG; exact ⟨rfl, Nat.le_refl _, (by decide), fun _ h => (by cases h), .inl rfl⟩) fun v hv hk => ?_
    unfold dpSmG at hk
    exact absurd hk.1 (Nat.lt_irrefl _)
  | some x =>
    obtain ⟨b, c, zs⟩ := x
    obtain ⟨h0, hc, hz, _⟩ := h
    have hV := hF.var (b := b) .head
    refine hw.add _ (by unfold dpSmG; exact vr_sm (by decide) (fun _ _ => rfl) hV rfl hc hV.lt) fun v hv hk => ?_
    unfold dpSmG at hk
    obtain ⟨_, o, e⟩ := hk
    have hd := (List.pairwise_cons.1 (show List.Pairwise (fun x y : VB => x.b ≠ y.b) (⟨b, 46, l.flatMap plc ++ zs⟩ :: L) from hF.dist)).1 v hv
    simp only [slA, Option.some.injEq, Addr.mk.injEq] at e
    exact hd e.1
theorem Fr.grA {g m r c : Nat} {i : Int} {l nw nw' : GL} (hF : Fr w0 w L D S) (h1 : dpMp spot ivA m (apl i l nw') ∈ D) (h2 : dpCb g 96 (grc r c m) ∈ D) (h3 : dpGv l ∈ D) (h4 : dpGv nw ∈ D) (hs : ∀ p ∈ nw', p ∈ nw) : Gr w.heap g m r c (apl i l nw') :=
  ⟨(by have := hF.data _ h2; unfold dpCb at this; exact this), hF.mp h1, fun p hp => by
    have h5 := hF.data _ h3
    have h6 := hF.data _ h4
    unfold dpGv at h5 h6
    rcases apl_mem i hp with hp | ⟨q, hq, e⟩
    · exact h5 p hp
    · rw [e]; exact h6 q (hs q hq)⟩
theorem PBok.len {l l' : GL} {pb : PB} (h : PBok l pb) (e : l'.length = l.length) : PBok l' pb := by
  cases pb with
  | none => have h : l = [] := h; subst h; exact List.eq_nil_of_length_eq_zero e
  | some x => unfold PBok at h ⊢; rw [e]; exact h
end
end Go.Eng

set_option linter.unusedSectionVars false
namespace Go.Proofs.Ytlpheckjogphmaa
open Go Go.Eng Go.Proofs Go.NatM Go.RowKit

/-- AddRow's answers -/
def RetAR (w : World) (g m r c : Nat) (l : GL) (Z : Int × Int → Int) (e : Ending) (w' : World) : Prop := ∃ (er : Int) (l2 : GL), RetW w g m r c l2 (.int .i64 er) e w' ∧ ((er = 5 ∧ l2 = l ∧ Refu Z) ∨ (er = 0 ∧ NZ l2 ∧ l2.length ≤ 4096 ∧ (∀ k, zv l2 k = Z k) ∧ ∀ k, ¬ bigZ (Z k)))
theorem garow_bad (w : World) (g m r c : Nat) (l : GL) (i j : Int) (x : IV) (hG : Gr w.heap g m r c l) (h : ¬ ((0 ≤ i ∧ i < (r : Int)) ∧ (0 ≤ j ∧ j < (r : Int)))) :
    Cl Try.prog 30 #[.pointer (some ⟨g, 0, none⟩), .int .i64 i, .int .i64 j, ivA x] w (fun e w' => e = .returned (.int .i64 3) ∧ Ext w w') := by
  have hF := Gr.fr hG fun _ => False
  clear hG
  obtain ⟨xn, ⟨xA, xk, xc, xl⟩⟩ := x
  by_cases h0 : 0 ≤ i ∧ i < (r : Int)
  · have h1 := fun w1 => in_t w1 i r h0
    have h2 := fun w1 => in_f w1 j r fun hh => h ⟨h0, hh⟩
    clear h h0
    refine enter Try.func30 rfl rfl rfl ?_
    repeat' (first | (refine TL.isOp ?_; first | (refine TL.isG ?_; first | refine TL.grun rfl rfl rfl ?_) | (refine TL.isCall ?_; refine TL.call rfl rfl ?_; first | (refine (h1 _).mono ?_; rintro _ wy ⟨rfl, hE⟩; replace hF := hF.exts hE; clear hE; refine Back.mk ?_) | (refine (h2 _).mono ?_; rintro _ wy ⟨rfl, hE⟩; replace hF := hF.exts hE; clear hE; refine Back.mk ?_)) | (apply TL.ev; (case hd => rfl); (case h => (first | exact ev_simple rfl | (apply Ev.isBin; first | exact ev_eqlP rfl rfl rfl) | (apply Ev.isLoad; first | exact ev_loadCb hF rfl (by repeat (first | exact memH | apply memT)) rfl) | exact ev_fieldAddr rfl | exact ev_nilCheck rfl))) | (refine TL.boxAFr hF (d := 7) (cs := [.bool xn, .slice xA xk xc]) rfl rfl ?_; clear hF; intro w7 b7 hF)) | (refine T.is ?_; first | refine T.seq ?_ | refine T.region ?_ | refine T.cond_t rfl ?_ | refine T.ret ?_) | (refine G.is ?_; first | refine G.next ?_ | refine G.thenR ?_) | refine TL.nil ?_)
    all_goals exact G.ret1 rfl rfl ⟨rfl, hF.ext⟩
  · have h1 := fun w1 => in_f w1 i r h0
    clear h h0
    refine enter Try.func30 rfl rfl rfl ?_
    repeat' (first | (refine TL.isOp ?_; first | (refine TL.isG ?_; first | refine TL.grun rfl rfl rfl ?_ | refine TL.gskip rfl rfl rfl rfl ?_) | (refine TL.isCall ?_; refine TL.call rfl rfl ?_; first | (refine (h1 _).mono ?_; rintro _ wy ⟨rfl, hE⟩; replace hF := hF.exts hE; clear hE; refine Back.mk ?_)) | (apply TL.ev; (case hd => rfl); (case h => (first | exact ev_simple rfl | (apply Ev.isBin; first | exact ev_eqlP rfl rfl rfl) | (apply Ev.isLoad; first | exact ev_loadCb hF rfl (by repeat (first | exact memH | apply memT)) rfl) | exact ev_fieldAddr rfl | exact ev_nilCheck rfl))) | (refine TL.boxAFr hF (d := 7) (cs := [.bool xn, .slice xA xk xc]) rfl rfl ?_; clear hF; intro w7 b7 hF)) | (refine T.is ?_; first | refine T.seq ?_ | refine T.region ?_ | refine T.cond_t rfl ?_ | refine T.ret ?_) | (refine G.is ?_; first | refine G.next ?_ | refine G.thenR ?_) | refine TL.nil ?_)
    all_goals exact G.ret1 rfl rfl ⟨rfl, hF.ext⟩
theorem take_notin {K V : Type} {l : List (K × V)} (hn : (l.map (·.1)).Nodup) {k : Nat} {p : K × V} (h : l[k]? = some p) : p.1 ∉ (l.take k).map (·.1) := fun hm => by
  obtain ⟨hlt, he⟩ := List.getElem?_eq_some_iff.1 h
  have e : l = l.take k ++ p :: l.drop (k + 1) := by rw [← he, ← List.drop_eq_getElem_cons hlt, List.take_append_drop]
  rw [e, List.map_append, List.map_cons] at hn
  exact (List.nodup_append.1 hn).2.2 _ hm p.1 (List.mem_cons_self ..) rfl
theorem sig_zero {z : Int} (h : ¬ sig z ≠ 0) : z = 0 := Classical.byContradiction fun hz => h (sig_ne hz)
set_option maxHeartbeats 8000000 in
theorem garow_ok (w : World) (g m r c : Nat) (l : GL) (i j : Int) (kx : IV) (hG : Gr w.heap g m r c l) (hl : l.length ≤ 4096) (hz : NZ l) (hi : 0 ≤ i ∧ i < (r : Int)) (hj : 0 ≤ j ∧ j < (r : Int)) (hk : GI w.heap kx) (hkn : kx.m.n ≤ 1073741824) :
    Cl Try.prog 30 #[.pointer (some ⟨g, 0, none⟩), .int .i64 i, .int .i64 j, ivA kx] w (RetAR w g m r c l (rowZ l i j (ival kx))) := by
  have hn : (l.map (·.1)).Nodup := by obtain ⟨es, k, _, h⟩ := hG.mp; exact h.keys
  have hsm := gv_small hG.vals
  have hF := Gr.frD hG (Fr.mt (Fr.refS w fun k => k = m) (dpGI kx) (by unfold dpGI; exact hk))
  have hgm := hG.ne
  clear hG hk
  have h1 := fun w1 => in_t w1 i r hi
  have h2 := fun w1 => in_t w1 j r hj
  have hln := fun w1 (hG : Gr w1.heap g m r c l) => gline_ok w1 g m r c l j hG (by omega)
  obtain ⟨xn, ⟨xA, xk, xc, xl⟩⟩ := kx
  generalize hkv : ival ⟨xn, ⟨xA, xk, xc, xl⟩⟩ = kv
  dsimp only at hkn
  refine enter Try.func30 rfl rfl rfl ?_
  repeat' (first | (refine TL.isOp ?_; first | (refine TL.isG ?_; first | refine TL.grun rfl rfl rfl ?_) | (refine TL.isCall ?_; refine TL.call rfl rfl ?_; first | (refine (h1 _).mono ?_; rintro _ wy ⟨rfl, hE⟩; replace hF := hF.exts hE; clear hE; refine Back.mk ?_) | (refine (h2 _).mono ?_; rintro _ wy ⟨rfl, hE⟩; replace hF := hF.exts hE; clear hE; refine Back.mk ?_) | (refine (hln _ (hF.gr (by repeat (first | exact memH | apply memT)) (by repeat (first | exact memH | apply memT)) (by repeat (first | exact memH | apply memT)))).mono ?_; rintro _ wy ⟨l', pb, hpm, hpb, rfl, hFl⟩; rw [slv_eq hpb]; replace hF := Fr.joinF hF hFl (fun d hd => by cases hd); clear hFl; refine Back.mk ?_)) | (apply TL.ev; (case hd => rfl); (case h => (first | exact ev_simple rfl | (apply Ev.isBin; first | exact ev_eqlP rfl rfl rfl) | (apply Ev.isLoad; first | exact ev_loadCb hF rfl (by repeat (first | exact memH | apply memT)) rfl) | exact ev_len rfl | exact ev_fieldAddr rfl | exact ev_nilCheck rfl))) | (refine TL.boxAFr hF (d := 7) (cs := [.bool xn, .slice xA xk xc]) rfl rfl ?_; clear hF; intro w7 b7 hF)) | (refine TF.is ?_; first | refine TF.nil ?_ | refine TF.e rfl ?_ | (refine TF.pick rfl ?_; first | (apply TFo.ev; (case hd => rfl); (case h => (intro wh hF; first | exact ev_simple rfl | (apply Ev.isLoad; first | exact ev_loadCb hF rfl (by repeat (first | exact memH | apply memT)) rfl) | exact ev_fieldAddr rfl | exact ev_nilCheck rfl | exact ev_mlen hF rfl (by repeat (first | exact memH | apply memT))))))) | (refine T.is ?_; first | refine T.seq ?_ | refine T.region ?_ | refine T.block ?_ | refine T.cond_f rfl ?_ | refine T.skip ?_ | (refine T.regionFr hF 3 10 (.s 0 (.s 1 (.s 3 (.s 4 (.s 5 (.s 6 (.e 2 (.s 7 (.s 8 (.s 9 .nil)))))))))) mixed (by kernel_rfl) ?_; clear hF; intro wr hF)) | (refine G.is ?_; first | refine G.next ?_ | refine G.only ?_ | refine G.tree rfl (by first | exact hF | exact hF.weak (List.sublist_append_right _ _) (by repeat (first | exact allR | apply allT)) | exact hF.weak (by repeat (first | exact List.Sublist.refl _ | apply List.Sublist.cons)) (by repeat (first | exact allR | apply allT)) | exact hF.weak (by repeat (first | exact List.Sublist.refl _ | apply List.Sublist.cons)) (by repeat (first | exact allN | refine allH (by repeat (first | exact memH | apply memT)) ?_))) ?_) | refine TL.nil ?_)
  have hlen := hpm.length_eq
  have hlen2 := inRow_len j l
  have hrow : ∀ p ∈ l', p ∈ l ∧ p.1.1 = j := fun p hp => mem_inRow.1 (hpm.mem_iff.1 hp)
  have hnl : (l'.map (·.1)).Nodup := ((hpm.map _).nodup_iff).2 (hn.sublist (List.filter_sublist.map _))
  refine T.loop (α := GL × Int) (fun x => [(0, .pointer (some ⟨g, 0, none⟩)), (1, .int .i64 i), (7, .pointer (some ⟨b7, 0, none⟩)), (9, .slice (slA pb) l'.length (slC pb)), (10, .int .i64 x.2), (45, .slice (slA pb) l'.length (slC pb)), (46, .int .i64 (l'.length : Int)), (47, .int .i64 (x.1.length : Int))])
    (fun x w' => (x.1.length ≤ l'.length ∧ NewR l i kv (l'.take x.1.length) x.1 ∧ x.2 = ((apl i l x.1).length : Int) ∧ (∀ p ∈ x.1, ¬ bigZ (ival p.2)) ∧ (apl i l x.1).length ≤ l.length + x.1.length) ∧ Fr w w' (lvb (x.1 ++ l'.drop x.1.length) pb ++ [⟨b7, 42, [.bool xn, .slice xA xk xc]⟩]) [dpMp spot ivA m l, dpCb g 96 (grc r c m), dpGv l, dpGI ⟨xn, ⟨xA, xk, xc, xl⟩⟩, dpGv x.1] (fun k => k = m)) (fun x => l'.length - x.1.length) ([], (l.length : Int)) (by repeat (first | exact Sub.nil _ | refine Sub.cons rfl ?_ | refine Sub.cons' rfl (int_congr (by omega)) ?_)) ⟨⟨Nat.zero_le _, rfl, rfl, fun p hp => (by cases hp), Nat.le_refl _⟩, by
      have h0 := Fr.addGv hF (l := []) fun p hp => (by cases hp)
      exact h0.weak (List.Sublist.refl _) (allH (by repeat (first | exact memH | apply memT)) (allH (by repeat (first | exact memH | apply memT)) (allH (by repeat (first | exact memH | apply memT)) (allH (by repeat (first | exact memH | apply memT)) (allH (by repeat (first | exact memH | apply memT)) allN)))))⟩ ?_
  clear hF
  rintro ⟨nw, n⟩ w1 ⟨⟨hk, hnew, hnn, hnb, hap⟩, hF⟩
  dsimp only at hk hnew hnn hnb hap hF ⊢
  rcases Nat.lt_or_ge nw.length l'.length with hkn | hkn
  · obtain ⟨p, hp⟩ : ∃ p, l'[nw.length]? = some p := ⟨_, List.getElem?_eq_getElem hkn⟩
    have hpl := hrow p (List.mem_of_getElem? hp)
    rcases pb with _ | ⟨bp, cp, zp⟩
    · have e : l' = [] := hpb
      subst e
      simp at hkn
    obtain ⟨hb0, hbc, hbz, hbo⟩ := hpb
    generalize hls : nw ++ l'.drop nw.length = ls at hF
    have hll : ls.length = l'.length := by rw [← hls, List.length_append, List.length_drop]; omega
    have hget : ls[nw.length]? = some p := by rw [← hls, List.getElem?_append_right (Nat.le_refl _), Nat.sub_self, List.getElem?_drop, Nat.add_zero]; exact hp
    have hget2 : ∀ y, (ls.set nw.length (p.1, y))[nw.length]? = some (p.1, y) := fun y => List.getElem?_set_self (by omega)
    have hsl : ∀ y, (ls.set nw.length (p.1, y)).length = l'.length := fun y => by rw [List.length_set, hll]
    have hlk : lkp (apl i l nw) (i, p.1.2) = lkp l (i, p.1.2) := apl_lkp i hn fun q hq e => by
      have h3 : q.1 ∈ (l'.take nw.length).map (·.1) := by rw [← hnew.keys]; exact List.mem_map.2 ⟨q, hq, rfl⟩
      obtain ⟨q', hq', e'⟩ := List.mem_map.1 h3
      have h4 : q'.1 = p.1 := by
        have a1 := (hrow q' (List.mem_of_mem_take hq')).2
        have a2 := hpl.2
        rw [e'] at a1 ⊢
        exact Prod.ext (a1.trans a2.symm) e
      exact take_notin hnl hp (h4 ▸ List.mem_map.2 ⟨q', hq', rfl⟩)
    obtain ⟨hd, hhd⟩ : ∃ hd, (lkp l (i, p.1.2)).isSome = hd := ⟨_, rfl⟩
    have hzj : zv l (j, p.1.2) = ival p.2 := zv_some (lkp_of_mem hn (by have a1 := hpl.1; have a2 := hpl.2; rw [← a2]; exact a1))
    have hrz : ∀ y, ival y = kv * ival p.2 + ival (at0 l (i, p.1.2)) → rowZ l i j kv (i, p.1.2) = ival y := fun y e => by
      unfold rowZ
      simp only [if_true]
      rw [hzj, e, Int.add_comm]; rfl
    have hset : ∀ u, ls.set nw.length u = (nw ++ [u]) ++ l'.drop (nw ++ [u]).length := fun u => by
      rw [← hls, List.set_append_right _ _ (Nat.le_refl _), Nat.sub_self, List.drop_eq_getElem_cons hkn, List.set_cons_zero, List.length_append]
      simp
    have hnext : ∀ (y : IV) (n' : Int), ival y = kv * ival p.2 + ival (at0 l (i, p.1.2)) → ¬ bigZ (ival y) → n' = n - (if hd then 1 else 0) + (if ival y ≠ 0 then 1 else 0) →
        ((nw ++ [(p.1, y)]).length ≤ l'.length ∧ NewR l i kv (l'.take (nw ++ [(p.1, y)]).length) (nw ++ [(p.1, y)]) ∧ n' = ((apl i l (nw ++ [(p.1, y)])).length : Int) ∧ (∀ q ∈ nw ++ [(p.1, y)], ¬ bigZ (ival q.2)) ∧ (apl i l (nw ++ [(p.1, y)])).length ≤ l.length + (nw ++ [(p.1, y)]).length) := fun y n' e hb he => by
      have h5 := putL_len (apl i l nw) (i, p.1.2) y
      rw [hlk, hhd] at h5
      have e2 : (nw ++ [(p.1, y)]).length = nw.length + 1 := by simp
      rw [e2, apl_snoc, take_snoc hp]
      refine ⟨hkn, hnew.snoc e, ?_, fun q hq => ?_, ?_⟩
      · rw [he, hnn]; exact h5.symm
      · rcases List.mem_append.1 hq with hq | hq
        · exact hnb q hq
        · simp only [List.mem_cons, List.not_mem_nil, or_false] at hq
          subst hq; exact hb
      · dsimp only at h5 ⊢
        (repeat' split at h5) <;> omega
    cases hd
    · repeat' (first | (refine TL.isOp ?_; first | (refine TL.isCall ?_; refine TL.call rfl rfl ?_; first | (refine (zmulAdd_ok _ ⟨xn, ⟨xA, xk, xc, xl⟩⟩ p.2 (at0 l (i, p.1.2)) (Fr.gi hF (by repeat (first | exact memH | apply memT))) (Fr.gv (l := l) hF (by repeat (first | exact memH | apply memT)) p hpl.1).1.g (gv_at (Fr.gv (l := l) hF (by repeat (first | exact memH | apply memT))) (i, p.1.2)).1 (by dsimp only; omega) (Nat.le_trans (Fr.gv (l := l) hF (by repeat (first | exact memH | apply memT)) p hpl.1).2 (by decide)) (Nat.le_trans (gv_at (Fr.gv (l := l) hF (by repeat (first | exact memH | apply memT))) (i, p.1.2)).2 (by decide))).mono ?_; rintro _ wy ⟨y, rfl, hy, hE, hyn⟩; have hyn2 : y.m.n ≤ 1099511627776 := (by have a1 := (Fr.gv (l := l) hF (by repeat (first | exact memH | apply memT)) p hpl.1).2; have a2 := (gv_at (Fr.gv (l := l) hF (by repeat (first | exact memH | apply memT))) (i, p.1.2)).2; dsimp only at hyn; omega); have hyv := hy.val; rw [hkv] at hyv; replace hF := Fr.addLI (hF.exts hE) (hy.val.symm ▸ hy); clear hE hy hyn; refine Back.mk ?_) | (refine (zsign_ok _ y (Fr.li hF (x := y) (z := ival y) (by repeat (first | exact memH | apply memT))).g hyn2).mono ?_; rintro _ wy ⟨rfl, hE⟩; replace hF := hF.exts hE; clear hE; refine Back.mk ?_) | (by_cases hbig : bigZ (ival y); refine (long_t _ y (Fr.li hF (x := y) (z := ival y) (by repeat (first | exact memH | apply memT))).g hyn2 hbig).mono ?_; rintro _ wy ⟨rfl, hE⟩; replace hF := hF.exts hE; clear hE; refine Back.mk ?_; rotate_left 1; refine (long_f _ y (Fr.li hF (x := y) (z := ival y) (by repeat (first | exact memH | apply memT))).g hyn2 hbig).mono ?_; rintro _ wy ⟨rfl, hE⟩; replace hF := hF.exts hE; clear hE; refine Back.mk ?_)) | (refine TL.isBin ?_; refine TL.cmpG rfl rfl rfl rfl (fun hc => ?_) (fun hc => ?_) <;> (try (first | (exfalso; omega) | exact absurd rfl hc))) | (apply TL.ev; (case hd => rfl); (case h => (first | exact ev_simple rfl | (apply Ev.isBin; first | exact ev_arN rfl rfl rfl (by omega) | exact ev_arI rfl rfl rfl (by omega)) | (apply Ev.isLoad; first | exact ev_loadAFr hF rfl (by refine ⟨?_, ?_⟩; (focus (repeat (first | exact InV.head | apply InV.tail))); rfl) | exact ev_loadMc [.int .i64 p.1.1, .int .i64 p.1.2, .bool p.2.neg, .slice p.2.m.A p.2.m.n p.2.m.c] rfl (pb_sm hF (by repeat (first | exact InV.head | apply InV.tail)) hll hbc) hget rfl | exact ev_loadMS rfl (pb_sm hF (by repeat (first | exact InV.head | apply InV.tail)) (hsl y) hbc) (hget2 y) rfl) | exact ev_fieldAddr rfl | exact ev_mlookOkI hF (l := l) (y := (i, p.1.2)) rfl rfl (by repeat (first | exact memH | apply memT)) hhd | exact ev_indexM rfl rfl hkn (.inr rfl) | exact ev_fieldAddrE rfl rfl))) | (refine TL.storeAFr hF rfl rfl rfl rfl (by refine ⟨?_, ?_⟩; (focus (repeat (first | apply SetV.head | apply SetV.tail))); rfl) rfl ?_; clear hF; intro ws hF) | (refine TL.allocFr hF (d := 12) rfl rfl ?_; clear hF; intro w12 b12 hF) | (refine TL.allocFr hF (d := 13) rfl rfl ?_; clear hF; intro w13 b13 hF) | (refine TL.storePl hF (l := ls) (p := p) y rfl rfl hget hbo (by repeat (first | exact SetV.head | apply SetV.tail)) ?_; clear hF; intro ws hF)) | (refine TF.is ?_; first | refine TF.nil ?_ | refine TF.e rfl ?_ | refine TF.alt ?_ ?_ | (refine TF.pick rfl ?_; first | (apply TFo.ev; (case hd => rfl); (case h => (intro wh hF; first | exact ev_simple rfl | (apply Ev.isLoad; first | exact ev_loadFr hF rfl (by refine ⟨?_, ?_⟩; (focus (repeat (first | exact InV.head | apply InV.tail))); rfl) | exact ev_loadCb hF rfl (by repeat (first | exact memH | apply memT)) rfl) | exact ev_fieldAddr rfl | exact ev_buildX rfl rfl | exact ev_nilCheck rfl))))) | (refine T.is ?_; first | refine T.seq ?_ | refine T.region ?_ | refine T.block ?_ | refine T.cond_t rfl ?_ | refine T.cond_f rfl ?_ | refine T.ret ?_ | refine T.skip ?_ | (refine T.regionFr hF 7 15 (.s 0 (.s 1 (.s 2 (.s 3 (.s 4 (.s 5 (.s 6 (.s 7 (.alt (.e 8 (.s 9 (.s 10 (.s 11 (.e 12 (.e 13 (.s 14 .nil))))))) (.e 12 (.e 8 (.s 9 (.s 10 (.s 11 (.e 13 (.s 14 .nil)))))))))))))))) mixed (by kernel_rfl) ?_; clear hF; intro wr hF)) | (refine G.is ?_; first | refine G.next ?_ | refine G.blockN ?_ | refine G.blockR ?_ | refine G.thenR ?_ | refine G.only ?_ | refine G.tree rfl (by first | exact hF | exact hF.weak (List.sublist_append_right _ _) (by repeat (first | exact allR | apply allT)) | exact hF.weak (by repeat (first | exact List.Sublist.refl _ | apply List.Sublist.cons)) (by repeat (first | exact allR | apply allT)) | exact hF.weak (by repeat (first | exact List.Sublist.refl _ | apply List.Sublist.cons)) (by repeat (first | exact allN | refine allH (by repeat (first | exact memH | apply memT)) ?_))) ?_) | refine TL.nil ?_)
      all_goals first
      | exact G.ret1 rfl rfl ⟨5, l, ⟨rfl, hF.exs, hF.gr (by repeat (first | exact memH | apply memT)) (by repeat (first | exact memH | apply memT)) (by repeat (first | exact memH | apply memT))⟩, .inl ⟨rfl, rfl, .inl ⟨(i, p.1.2), (hrz y hyv).symm ▸ hbig⟩⟩⟩
      | (have hs0 : ival y ≠ 0 := fun e => hc (show sig (ival y) = 0 from e.symm ▸ rfl)
         have hnx := hnext y (n + 1) hyv hbig (by simp only [if_true, Bool.false_eq_true, if_false]; rw [if_pos hs0] <;> omega)
         have hF2 := (Fr.gvSnoc hF (lo := nw) (q := p.1) (by repeat (first | exact memH | apply memT)) (Fr.li hF (x := y) (z := ival y) (by repeat (first | exact memH | apply memT))) (few_of (Fr.li hF (x := y) (z := ival y) (by repeat (first | exact memH | apply memT))) hbig))
         rw [hset] at hF2
         refine G.again (nw ++ [(p.1, y)], n + 1) ?_ ⟨hnx, hF2.weak (.cons _ (.cons _ (.refl _))) (allH (by repeat (first | exact memH | apply memT)) (allH (by repeat (first | exact memH | apply memT)) (allH (by repeat (first | exact memH | apply memT)) (allH (by repeat (first | exact memH | apply memT)) (allH (by repeat (first | exact memH | apply memT)) allN)))))⟩ (by simp only [List.length_append, List.length_cons, List.length_nil]; omega)
         dsimp only
         rw [List.length_append]
         exact (by repeat (first | exact Sub.nil _ | refine Sub.cons rfl ?_ | refine Sub.cons' rfl (int_congr (by omega)) ?_)))
      | (have hs0 : ival y = 0 := sig_zero hc
         have hnx := hnext y (n) hyv hbig (by simp only [if_true, Bool.false_eq_true, if_false]; rw [if_neg (fun h => h hs0)] <;> omega)
         have hF2 := (Fr.gvSnoc hF (lo := nw) (q := p.1) (by repeat (first | exact memH | apply memT)) (Fr.li hF (x := y) (z := ival y) (by repeat (first | exact memH | apply memT))) (few_of (Fr.li hF (x := y) (z := ival y) (by repeat (first | exact memH | apply memT))) hbig))
         rw [hset] at hF2
         refine G.again (nw ++ [(p.1, y)], n) ?_ ⟨hnx, hF2.weak (.cons _ (.cons _ (.refl _))) (allH (by repeat (first | exact memH | apply memT)) (allH (by repeat (first | exact memH | apply memT)) (allH (by repeat (first | exact memH | apply memT)) (allH (by repeat (first | exact memH | apply memT)) (allH (by repeat (first | exact memH | apply memT)) allN)))))⟩ (by simp only [List.length_append, List.length_cons, List.length_nil]; omega)
         dsimp only
         rw [List.length_append]
         exact (by repeat (first | exact Sub.nil _ | refine Sub.cons rfl ?_ | refine Sub.cons' rfl (int_congr (by omega)) ?_)))
    · repeat' (first | (refine TL.isOp ?_; first | (refine TL.isCall ?_; refine TL.call rfl rfl ?_; first | (refine (zmulAdd_ok _ ⟨xn, ⟨xA, xk, xc, xl⟩⟩ p.2 (at0 l (i, p.1.2)) (Fr.gi hF (by repeat (first | exact memH | apply memT))) (Fr.gv (l := l) hF (by repeat (first | exact memH | apply memT)) p hpl.1).1.g (gv_at (Fr.gv (l := l) hF (by repeat (first | exact memH | apply memT))) (i, p.1.2)).1 (by dsimp only; omega) (Nat.le_trans (Fr.gv (l := l) hF (by repeat (first | exact memH | apply memT)) p hpl.1).2 (by decide)) (Nat.le_trans (gv_at (Fr.gv (l := l) hF (by repeat (first | exact memH | apply memT))) (i, p.1.2)).2 (by decide))).mono ?_; rintro _ wy ⟨y, rfl, hy, hE, hyn⟩; have hyn2 : y.m.n ≤ 1099511627776 := (by have a1 := (Fr.gv (l := l) hF (by repeat (first | exact memH | apply memT)) p hpl.1).2; have a2 := (gv_at (Fr.gv (l := l) hF (by repeat (first | exact memH | apply memT))) (i, p.1.2)).2; dsimp only at hyn; omega); have hyv := hy.val; rw [hkv] at hyv; replace hF := Fr.addLI (hF.exts hE) (hy.val.symm ▸ hy); clear hE hy hyn; refine Back.mk ?_) | (refine (zsign_ok _ y (Fr.li hF (x := y) (z := ival y) (by repeat (first | exact memH | apply memT))).g hyn2).mono ?_; rintro _ wy ⟨rfl, hE⟩; replace hF := hF.exts hE; clear hE; refine Back.mk ?_) | (by_cases hbig : bigZ (ival y); refine (long_t _ y (Fr.li hF (x := y) (z := ival y) (by repeat (first | exact memH | apply memT))).g hyn2 hbig).mono ?_; rintro _ wy ⟨rfl, hE⟩; replace hF := hF.exts hE; clear hE; refine Back.mk ?_; rotate_left 1; refine (long_f _ y (Fr.li hF (x := y) (z := ival y) (by repeat (first | exact memH | apply memT))).g hyn2 hbig).mono ?_; rintro _ wy ⟨rfl, hE⟩; replace hF := hF.exts hE; clear hE; refine Back.mk ?_)) | (refine TL.isBin ?_; refine TL.cmpG rfl rfl rfl rfl (fun hc => ?_) (fun hc => ?_) <;> (try (first | (exfalso; omega) | exact absurd rfl hc))) | (apply TL.ev; (case hd => rfl); (case h => (first | exact ev_simple rfl | (apply Ev.isBin; first | exact ev_arN rfl rfl rfl (by omega) | exact ev_arI rfl rfl rfl (by omega)) | (apply Ev.isLoad; first | exact ev_loadAFr hF rfl (by refine ⟨?_, ?_⟩; (focus (repeat (first | exact InV.head | apply InV.tail))); rfl) | exact ev_loadMc [.int .i64 p.1.1, .int .i64 p.1.2, .bool p.2.neg, .slice p.2.m.A p.2.m.n p.2.m.c] rfl (pb_sm hF (by repeat (first | exact InV.head | apply InV.tail)) hll hbc) hget rfl | exact ev_loadMS rfl (pb_sm hF (by repeat (first | exact InV.head | apply InV.tail)) (hsl y) hbc) (hget2 y) rfl) | exact ev_fieldAddr rfl | exact ev_mlookOkI hF (l := l) (y := (i, p.1.2)) rfl rfl (by repeat (first | exact memH | apply memT)) hhd | exact ev_indexM rfl rfl hkn (.inr rfl) | exact ev_fieldAddrE rfl rfl))) | (refine TL.storeAFr hF rfl rfl rfl rfl (by refine ⟨?_, ?_⟩; (focus (repeat (first | apply SetV.head | apply SetV.tail))); rfl) rfl ?_; clear hF; intro ws hF) | (refine TL.allocFr hF (d := 12) rfl rfl ?_; clear hF; intro w12 b12 hF) | (refine TL.allocFr hF (d := 13) rfl rfl ?_; clear hF; intro w13 b13 hF) | (refine TL.storePl hF (l := ls) (p := p) y rfl rfl hget hbo (by repeat (first | exact SetV.head | apply SetV.tail)) ?_; clear hF; intro ws hF)) | (refine TF.is ?_; first | refine TF.nil ?_ | refine TF.e rfl ?_ | refine TF.alt ?_ ?_ | (refine TF.pick rfl ?_; first | (apply TFo.ev; (case hd => rfl); (case h => (intro wh hF; first | exact ev_simple rfl | (apply Ev.isLoad; first | exact ev_loadFr hF rfl (by refine ⟨?_, ?_⟩; (focus (repeat (first | exact InV.head | apply InV.tail))); rfl) | exact ev_loadCb hF rfl (by repeat (first | exact memH | apply memT)) rfl) | exact ev_fieldAddr rfl | exact ev_buildX rfl rfl | exact ev_nilCheck rfl))))) | (refine T.is ?_; first | refine T.seq ?_ | refine T.region ?_ | refine T.block ?_ | refine T.cond_t rfl ?_ | refine T.cond_f rfl ?_ | refine T.ret ?_ | refine T.skip ?_ | (refine T.regionFr hF 7 15 (.s 0 (.s 1 (.s 2 (.s 3 (.s 4 (.s 5 (.s 6 (.s 7 (.alt (.e 8 (.s 9 (.s 10 (.s 11 (.e 12 (.e 13 (.s 14 .nil))))))) (.e 12 (.e 8 (.s 9 (.s 10 (.s 11 (.e 13 (.s 14 .nil)))))))))))))))) mixed (by kernel_rfl) ?_; clear hF; intro wr hF)) | (refine G.is ?_; first | refine G.next ?_ | refine G.blockN ?_ | refine G.blockR ?_ | refine G.thenR ?_ | refine G.only ?_ | refine G.tree rfl (by first | exact hF | exact hF.weak (List.sublist_append_right _ _) (by repeat (first | exact allR | apply allT)) | exact hF.weak (by repeat (first | exact List.Sublist.refl _ | apply List.Sublist.cons)) (by repeat (first | exact allR | apply allT)) | exact hF.weak (by repeat (first | exact List.Sublist.refl _ | apply List.Sublist.cons)) (by repeat (first | exact allN | refine allH (by repeat (first | exact memH | apply memT)) ?_))) ?_) | refine TL.nil ?_)
      all_goals first
      | exact G.ret1 rfl rfl ⟨5, l, ⟨rfl, hF.exs, hF.gr (by repeat (first | exact memH | apply memT)) (by repeat (first | exact memH | apply memT)) (by repeat (first | exact memH | apply memT))⟩, .inl ⟨rfl, rfl, .inl ⟨(i, p.1.2), (hrz y hyv).symm ▸ hbig⟩⟩⟩
      | (have hs0 : ival y ≠ 0 := fun e => hc (show sig (ival y) = 0 from e.symm ▸ rfl)
         have hnx := hnext y (n - 1 + 1) hyv hbig (by simp only [if_true, Bool.false_eq_true, if_false]; rw [if_pos hs0] <;> omega)
         have hF2 := (Fr.gvSnoc hF (lo := nw) (q := p.1) (by repeat (first | exact memH | apply memT)) (Fr.li hF (x := y) (z := ival y) (by repeat (first | exact memH | apply memT))) (few_of (Fr.li hF (x := y) (z := ival y) (by repeat (first | exact memH | apply memT))) hbig))
         rw [hset] at hF2
         refine G.again (nw ++ [(p.1, y)], n - 1 + 1) ?_ ⟨hnx, hF2.weak (.cons _ (.cons _ (.refl _))) (allH (by repeat (first | exact memH | apply memT)) (allH (by repeat (first | exact memH | apply memT)) (allH (by repeat (first | exact memH | apply memT)) (allH (by repeat (first | exact memH | apply memT)) (allH (by repeat (first | exact memH | apply memT)) allN)))))⟩ (by simp only [List.length_append, List.length_cons, List.length_nil]; omega)
         dsimp only
         rw [List.length_append]
         exact (by repeat (first | exact Sub.nil _ | refine Sub.cons rfl ?_ | refine Sub.cons' rfl (int_congr (by omega)) ?_)))
      | (have hs0 : ival y = 0 := sig_zero hc
         have hnx := hnext y (n - 1) hyv hbig (by simp only [if_true, Bool.false_eq_true, if_false]; rw [if_neg (fun h => h hs0)] <;> omega)
         have hF2 := (Fr.gvSnoc hF (lo := nw) (q := p.1) (by repeat (first | exact memH | apply memT)) (Fr.li hF (x := y) (z := ival y) (by repeat (first | exact memH | apply memT))) (few_of (Fr.li hF (x := y) (z := ival y) (by repeat (first | exact memH | apply memT))) hbig))
         rw [hset] at hF2
         refine G.again (nw ++ [(p.1, y)], n - 1) ?_ ⟨hnx, hF2.weak (.cons _ (.cons _ (.refl _))) (allH (by repeat (first | exact memH | apply memT)) (allH (by repeat (first | exact memH | apply memT)) (allH (by repeat (first | exact memH | apply memT)) (allH (by repeat (first | exact memH | apply memT)) (allH (by repeat (first | exact memH | apply memT)) allN)))))⟩ (by simp only [List.length_append, List.length_cons, List.length_nil]; omega)
         dsimp only
         rw [List.length_append]
         exact (by repeat (first | exact Sub.nil _ | refine Sub.cons rfl ?_ | refine Sub.cons' rfl (int_congr (by omega)) ?_)))
  · have hkl : nw.length = l'.length := Nat.le_antisymm hk hkn
    rw [List.take_of_length_le hkn] at hnew
    rw [List.drop_of_length_le hkn, List.append_nil] at hF
    have hF1 := Fr.lvSm hF (hpb.len hkl)
    clear hF
    have hF := hF1
    clear hF1
    rw [hkl] at hF
    have hspec := fun k => hnew.zv hn hpm k
    repeat' (first | (refine TL.isOp ?_; first | (refine TL.isBin ?_; refine TL.cmpG rfl rfl rfl rfl (fun hc => ?_) (fun hc => ?_) <;> (try (first | (exfalso; omega) | exact absurd rfl hc))) | (apply TL.ev; (case hd => rfl); (case h => (first | exact ev_simple rfl | exact ev_len rfl)))) | (refine T.is ?_; first | refine T.seq ?_ | refine T.region ?_ | refine T.block ?_ | refine T.cond_t rfl ?_ | refine T.cond_f rfl ?_ | refine T.exit ?_ | refine T.ret ?_ | refine T.skip ?_) | (refine G.is ?_; first | refine G.next ?_ | refine G.blockE ?_ | refine G.thenE ?_ | refine G.thenR ?_) | refine TL.nil ?_)
    · exact G.ret1 rfl rfl ⟨5, l, ⟨rfl, hF.exs, hF.gr (by repeat (first | exact memH | apply memT)) (by repeat (first | exact memH | apply memT)) (by repeat (first | exact memH | apply memT))⟩, .inl ⟨rfl, rfl, .inr ⟨apl i l nw, apl_NZ i hz nw, apl_nodup i hn nw, hspec, by omega⟩⟩⟩
    refine T.loop (α := Nat) (fun k => [(0, .pointer (some ⟨g, 0, none⟩)), (1, .int .i64 i), (94, .slice (slA pb) l'.length (slC pb)), (95, .int .i64 (l'.length : Int)), (96, .int .i64 (k : Int))])
      (fun k w' => k ≤ l'.length ∧ Fr w w' [] [dpMp spot ivA m (apl i l (nw.take k)), dpSmG 4 plc (slA pb) l'.length (slC pb) nw, dpCb g 96 (grc r c m), dpGv l, dpGv nw] (fun k => k = m)) (fun k => l'.length - k) 0 (by repeat (first | exact Sub.nil _ | refine Sub.cons rfl ?_ | refine Sub.cons' rfl (int_congr (by omega)) ?_)) ⟨Nat.zero_le _, hF.weak (List.nil_sublist _) (allH (by repeat (first | exact memH | apply memT)) (allH (by repeat (first | exact memH | apply memT)) (allH (by repeat (first | exact memH | apply memT)) (allH (by repeat (first | exact memH | apply memT)) (allH (by repeat (first | exact memH | apply memT)) allN)))))⟩ ?_
    clear hF
    rintro k w2 ⟨hk2, hF⟩
    rcases Nat.lt_or_ge k l'.length with hkn2 | hkn2
    · obtain ⟨p, hp⟩ : ∃ p, nw[k]? = some p := ⟨_, List.getElem?_eq_getElem (by omega)⟩
      repeat' (first | (refine TL.isOp ?_; first | (refine TL.isCall ?_; refine TL.call rfl rfl ?_; first | (refine (gput_ok _ g m r c (apl i l (nw.take k)) (i, p.1.2) p.2 (ival p.2) (hF.grA (by repeat (first | exact memH | apply memT)) (by repeat (first | exact memH | apply memT)) (by repeat (first | exact memH | apply memT)) (nw := nw) (by repeat (first | exact memH | apply memT)) fun q hq => List.mem_of_mem_take hq) (Fr.gv (l := nw) hF (by repeat (first | exact memH | apply memT)) p (List.mem_of_getElem? hp)).1 (Fr.gv (l := nw) hF (by repeat (first | exact memH | apply memT)) p (List.mem_of_getElem? hp)).2).mono ?_; rintro _ wy ⟨rfl, hE, hGp⟩; replace hF := Fr.callMp hF hE (.inr rfl) (nfC (nf_smG (hF.sm_mp (by repeat (first | exact memH | apply memT)) (by repeat (first | exact memH | apply memT)))) (nfC (nf_cb hgm) (nfC nf_gv (nfC nf_gv nfN)))) hGp.mp; clear hE hGp; refine Back.mk ?_)) | (refine TL.isBin ?_; refine TL.cmpG rfl rfl rfl rfl (fun hc => ?_) (fun hc => ?_) <;> (try (first | (exfalso; omega) | exact absurd rfl hc))) | (apply TL.ev; (case hd => rfl); (case h => (first | exact ev_simple rfl | (apply Ev.isBin; first | exact ev_arN rfl rfl rfl (by omega)) | (apply Ev.isLoad; first | exact ev_loadFr hF rfl (by refine ⟨?_, ?_⟩; (focus (repeat (first | exact InV.head | apply InV.tail))); rfl) | exact ev_loadAFr hF rfl (by refine ⟨?_, ?_⟩; (focus (repeat (first | exact InV.head | apply InV.tail))); rfl) | exact ev_loadMc [.int .i64 p.1.1, .int .i64 p.1.2, .bool p.2.neg, .slice p.2.m.A p.2.m.n p.2.m.c] rfl (Fr.smG hF (l := nw) (by repeat (first | exact memH | apply memT))) hp rfl) | exact ev_fieldAddr rfl | exact ev_buildX rfl rfl | exact ev_indexM rfl rfl hkn2 (Fr.smG hF (l := nw) (by repeat (first | exact memH | apply memT))).some))) | (refine TL.storeAFr hF rfl rfl rfl rfl (by refine ⟨?_, ?_⟩; (focus (repeat (first | apply SetV.head | apply SetV.tail))); rfl) rfl ?_; clear hF; intro ws hF) | (refine TL.allocFr hF (d := 16) rfl rfl ?_; clear hF; intro w16 b16 hF)) | (refine T.is ?_; first | refine T.seq ?_ | refine T.region ?_ | refine T.block ?_ | refine T.cond_t rfl ?_ | refine T.skip ?_) | (refine G.is ?_; first | refine G.next ?_ | refine G.blockN ?_) | refine TL.nil ?_)
      refine G.again (k + 1) (by repeat (first | exact Sub.nil _ | refine Sub.cons rfl ?_ | refine Sub.cons' rfl (int_congr (by omega)) ?_)) ⟨hkn2, ?_⟩ (by omega)
      rw [take_snoc hp, apl_snoc]
      exact hF.weak (List.nil_sublist _) allR
    · rw [List.take_of_length_le (by omega)] at hF
      repeat' (first | (refine TL.isOp ?_; first | (refine TL.isBin ?_; refine TL.cmpG rfl rfl rfl rfl (fun hc => ?_) (fun hc => ?_) <;> (try (first | (exfalso; omega) | exact absurd rfl hc))) | (apply TL.ev; (case hd => rfl); (case h => (first | exact ev_simple rfl)))) | (refine T.is ?_; first | refine T.seq ?_ | refine T.region ?_ | refine T.cond_f rfl ?_ | refine T.exit ?_ | refine T.ret ?_) | (refine G.is ?_; first | refine G.next ?_ | refine G.blockE ?_ | refine G.thenE ?_) | refine TL.nil ?_)
      have hGe := hF.grA (i := i) (l := l) (nw' := nw) (by repeat (first | exact memH | apply memT)) (by repeat (first | exact memH | apply memT)) (by repeat (first | exact memH | apply memT)) (nw := nw) (by repeat (first | exact memH | apply memT)) fun q hq => hq
      exact G.ret1 rfl rfl ⟨0, apl i l nw, ⟨rfl, hF.exs, hGe⟩, .inr ⟨rfl, apl_NZ i hz nw, by omega, hspec, fun k => by rw [← hspec]; exact gv_small hGe.vals k⟩⟩
end Go.Proofs.Ytlpheckjogphmaa
