/- Layer 10: lists of places; the contract of line. Layer 10: the contract of Clear. Layer 10: lists of keys and values as functions; the contract of Swap. Layer 10: the contracts of Turn and Copy. Layer 10: grids as functions: what stands at a place as a number. Layer 10: the contract of Add. Layer 10: a row's new numbers; writes into lists of places. Layer 10: the contract of AddRow. Layer 10: the order of places: cmp.Compare, cmp.Or, the function that Places hands to the sort; worlds exactly. Layer 10: rows of places as the sort's contract names them. Layer 10: the contract of Places, over one of the sort. The sort of places, by the shelf: its contract laid at this translation. -/
import Derived.Test.YtlpheckjogphmaaPr9
import Derived.Sort.Grow
import Derived.Shelf.GgSortFunc.InsertionK
import Derived.Shelf.SlSortCmp.WholeK
import Derived.Test.YtlpheckjogphmaaProg
set_option linter.unusedVariables false
set_option linter.unusedSimpArgs false
set_option linter.unusedSectionVars false
namespace Go.Eng
open Go Go.Proofs Go.NatM Go.RowKit Go.Proofs.Ytlpheckjogphmaa
/-- a place's cells -/
def plc (p : (Int × Int) × IV) : List Value := [.int .i64 p.1.1, .int .i64 p.1.2, .bool p.2.neg, .slice p.2.m.A p.2.m.n p.2.m.c]
theorem plc_no (l : GL) {zs : List Value} (h : zs.all noU64 = true) : (l.flatMap plc ++ zs).all noU64 = true := by
  rw [List.all_append, h, Bool.and_true, List.all_eq_true]
  intro v hv
  obtain ⟨p, _, hp⟩ := List.mem_flatMap.1 hv
  simp only [plc, List.mem_cons, List.not_mem_nil, or_false] at hp
  rcases hp with rfl | rfl | rfl | rfl <;> rfl
/-- where a list of places lies: nowhere, or at the head of a block (its number, the room, what stands behind) -/
abbrev PB := Option (Nat × Nat × List Value)
def slv (n : Nat) : PB → Value
  | none => .slice none 0 0
  | some (b, c, _) => .slice (some ⟨b, 0, none⟩) n c
def lvb (l : GL) : PB → List VB
  | none => []
  | some (b, _, zs) => [⟨b, 46, l.flatMap plc ++ zs⟩]
def PBok (l : GL) : PB → Prop
  | none => l = []
  | some (_, c, zs) => 0 < l.length ∧ l.length ≤ c ∧ zs.length = (c - l.length) * 4 ∧ zs.all noU64 = true
section
variable {S : Nat → Prop} {w0 w w' : World} {L : List VB} {D : List DP}
variable {K V : Type} [DecidableEq K] {f : K → Value} {g' : V → Value} {r b m g : Nat} {l done todo : List (K × V)}
theorem Fr.it_at (hF : Fr w0 w L D S) (h : dpIt f g' r b l done todo ∈ D) : ∃ c s, w.heap[r]? = some (.mapIter (some b) c s c) := by
  have := hF.data _ h
  unfold dpIt at this
  obtain ⟨es, c, E, T, _, _, h1, _⟩ := this
  exact ⟨c, _, h1⟩
theorem Fr.it_mp (hF : Fr w0 w L D S) (h : dpIt f g' r b l done todo ∈ D) {K2 V2 : Type} [DecidableEq K2] {f2 : K2 → Value} {g2 : V2 → Value} {l2 : List (K2 × V2)} (h2 : dpMp f2 g2 m l2 ∈ D) : m ≠ r := fun e => by
  obtain ⟨c, s, h1⟩ := hF.it_at h
  obtain ⟨es, k, h4, _⟩ := hF.mp h2
  rw [e, h1] at h4
  cases h4
theorem Fr.it_cb (hF : Fr w0 w L D S) (h : dpIt f g' r b l done todo ∈ D) {t : TypeId} {cs : List Value} (h2 : dpCb g t cs ∈ D) : g ≠ r := fun e => by
  obtain ⟨c, s, h1⟩ := hF.it_at h
  have h3 := hF.data _ h2
  unfold dpCb Vr at h3
  dsimp only at h3
  rw [e, h1] at h3
  cases h3
end
theorem nf_smG {α : Type} {k : Nat} {f : α → List Value} {A : Option Addr} {n c : Nat} {l : List α} {m : Nat} (h : ¬ fpA A n m) : ¬ (dpSmG k f A n c l).fp m := by unfold dpSmG; exact h
end Go.Eng
namespace Go.Proofs.Ytlpheckjogphmaa
open Go Go.Eng Go.Proofs Go.NatM Go.RowKit

/-- a list of places in a block of its own -/
def RetPl (w : World) (Q : GL → Prop) (e : Ending) (w' : World) : Prop := ∃ (l' : GL) (pb : PB), Q l' ∧ PBok l' pb ∧ e = .returned (slv l'.length pb) ∧ Fr w w' (lvb l' pb) []
/-- the row's places -/
def inRow (i : Int) (l : GL) : GL := l.filter fun p => decide (p.1.1 = i)
theorem inRow_len (i : Int) (l : GL) : (inRow i l).length ≤ l.length := List.length_filter_le ..
theorem drop_noV {zs : List Value} (h : zs.all noU64 = true) (n : Nat) : (zs.drop n).all noU64 = true := List.all_eq_true.2 fun v hv => List.all_eq_true.1 h v (List.mem_of_mem_drop hv)
theorem step_perm {α : Type} {l a b b' : List α} {p : α} (h : l.Perm (a ++ b)) (k : b.Perm (p :: b')) : l.Perm (a ++ [p] ++ b') := by
  refine h.trans ?_
  rw [List.append_assoc]
  exact k.append_left a
theorem step_mu {α : Type} {b b' : List α} {p : α} (k : b.Perm (p :: b')) : b'.length < b.length := by have := k.length_eq; simp at this; omega
end Go.Proofs.Ytlpheckjogphmaa

set_option linter.unusedSectionVars false
namespace Go.Eng
open Go Go.Proofs Go.NatM Go.RowKit Go.Proofs.Ytlpheckjogphmaa
section
variable {K V : Type} [DecidableEq K]
end
theorem mem_inRow {i : Int} {l : GL} {p : (Int × Int) × IV} : p ∈ inRow i l ↔ p ∈ l ∧ p.1.1 = i := by simp [inRow]
def slA : PB → Option Addr
  | none => none
  | some (b, _, _) => some ⟨b, 0, none⟩
def slC : PB → Nat
  | none => 0
  | some (_, c, _) => c
theorem slv_eq {l : GL} {pb : PB} (h : PBok l pb) : slv l.length pb = .slice (slA pb) l.length (slC pb) := by
  cases pb with
  | none => have : l = [] := h; rw [this]; rfl
  | some x => rfl
section
variable {S : Nat → Prop} {w0 w w' : World} {L : List VB} {D : List DP}
theorem plc_sm {l : GL} {pb : PB} (h : PBok l pb) (hF : Fr w w' (lvb l pb) []) : Sm 4 plc w'.heap w'.heap.size (slA pb) l.length (slC pb) l ∧ ∀ b, fpA (slA pb) l.length b → w.heap.size ≤ b := by
  cases pb with
  | none => have e : l = [] := h; subst e; exact ⟨⟨rfl, Nat.le_refl _, (by decide), fun _ h => (by cases h), .inl rfl⟩, fun b hb => absurd hb.1 (Nat.lt_irrefl _)⟩
  | some x =>
    obtain ⟨b, c, zs⟩ := x
    obtain ⟨h0, hc, hz, _⟩ := h
    have hV := hF.var (b := b) .head
    refine ⟨vr_sm (by decide) (fun _ _ => rfl) hV rfl hc hV.lt, fun k hk => ?_⟩
    obtain ⟨_, o, e⟩ := hk
    cases e
    exact ((hF.vars _ (List.mem_cons_self ..)).1).resolve_right id
/-- the lists of places lie apart from maps -/
theorem Fr.sm_mp {α : Type} {k : Nat} {f : α → List Value} {A : Option Addr} {n c m : Nat} {l : List α} {K V : Type} [DecidableEq K] {f' : K → Value} {g' : V → Value} {l' : List (K × V)} (hF : Fr w0 w L D S) (h1 : dpSmG k f A n c l ∈ D) (h2 : dpMp f' g' m l' ∈ D) : ¬ fpA A n m := fun ⟨hn, o, e⟩ => by
  have hs := hF.smG h1
  obtain ⟨es, kk, hm, _⟩ := hF.mp h2
  have hl := hs.len
  have hp := hs.pos
  rcases hs.mem with h | ⟨b, o', e', _, hc⟩
  · omega
  · rw [e] at e'
    cases e'
    have hw := hs.wid l[0] (List.getElem_mem (by omega))
    have := hc 0 l[0] (List.getElem?_eq_getElem (by omega)) 0 (f l[0])[0] (List.getElem?_eq_getElem (by omega))
    unfold hcell at this
    rw [hm] at this
    cases this
theorem Fr.addSm' {α : Type} {k : Nat} {f : α → List Value} {A : Option Addr} {n c : Nat} {l : List α} (hF : Fr w0 w L D S) (hE : Ext w w') (hs : Sm k f w'.heap w'.heap.size A n c l) (hf : ∀ b, fpA A n b → w.heap.size ≤ b) : Fr w0 w' L (dpSmG k f A n c l :: D) S :=
  hF.addNew hE _ (by unfold dpSmG; exact hs) fun b hb => hf b (by unfold dpSmG at hb; exact hb)
end
end Go.Eng
namespace Go.Proofs.Ytlpheckjogphmaa
open Go Go.Eng Go.Proofs Go.NatM Go.RowKit

/-- a list of places, as a fact -/
def RetPs (w : World) (Q : GL → Prop) (e : Ending) (w' : World) : Prop := ∃ (l' : GL) (A : Option Addr) (k : Nat), Q l' ∧ e = .returned (.slice A l'.length k) ∧ Ext w w' ∧ Sm 4 plc w'.heap w'.heap.size A l'.length k l' ∧ ∀ b, fpA A l'.length b → w.heap.size ≤ b
theorem RetPl.ps {w : World} {Q : GL → Prop} {e : Ending} {w' : World} (h : RetPl w Q e w') : RetPs w Q e w' := by
  obtain ⟨l', pb, hq, hb, rfl, hF⟩ := h
  have := plc_sm hb hF
  exact ⟨l', slA pb, slC pb, hq, by rw [slv_eq hb], hF.ext, this.1, this.2⟩
theorem take_snoc {α : Type} {l : List α} {k : Nat} {p : α} (h : l[k]? = some p) : l.take (k + 1) = l.take k ++ [p] := by rw [List.take_add_one, h]; rfl
end Go.Proofs.Ytlpheckjogphmaa

set_option linter.unusedSectionVars false
namespace Go.Eng
open Go Go.Proofs Go.NatM Go.RowKit Go.Proofs.Ytlpheckjogphmaa
section
variable {K V : Type} [DecidableEq K]
theorem lkp_iff {l : List (K × V)} (hn : (l.map (·.1)).Nodup) {x : K} {v : V} : lkp l x = some v ↔ (x, v) ∈ l := ⟨lkp_mem, lkp_of_mem hn⟩
theorem lkp_perm {l l' : List (K × V)} (hn : (l.map (·.1)).Nodup) (h : l.Perm l') (x : K) : lkp l x = lkp l' x := by
  have hn' : (l'.map (·.1)).Nodup := (h.map _).nodup_iff.1 hn
  cases hq : lkp l' x with
  | none => rw [lkp_none] at hq ⊢; exact fun hm => hq ((h.map _).mem_iff.1 hm)
  | some v => rw [lkp_iff hn]; exact h.mem_iff.2 ((lkp_iff hn').1 hq)
theorem lkp_filter (P : K → Bool) : ∀ (l : List (K × V)) (x : K), lkp (l.filter fun p => P p.1) x = if P x then lkp l x else none
  | [], x => by simp [lkp]
  | (y, u) :: l, x => by
    by_cases hP : P y
    · simp only [List.filter_cons, hP, if_true, lkp]
      by_cases h : y = x
      · subst h; simp [hP]
      · simp only [h, if_false]; exact lkp_filter P l x
    · have : (P y) = false := by simpa using hP
      simp only [List.filter_cons, this, Bool.false_eq_true, if_false, lkp]
      by_cases h : y = x
      · subst h; rw [lkp_filter P l y]; simp [this]
      · simp only [h, if_false]; exact lkp_filter P l x
end
theorem lkp_inRow (i : Int) (l : GL) (x y : Int) : lkp (inRow i l) (x, y) = if x = i then lkp l (x, y) else none := by
  have := lkp_filter (fun k : Int × Int => decide (k.1 = i)) l (x, y)
  simp only [decide_eq_true_eq] at this
  exact this
section
variable {S : Nat → Prop} {w0 w w' : World} {L : List VB} {D : List DP}
theorem Fr.rot3 {a b c : DP} (h : Fr w0 w L (a :: b :: c :: D) S) : Fr w0 w L (c :: a :: b :: D) S :=
  h.weak (List.Sublist.refl _) fun d hd => by
    simp only [List.mem_cons] at hd ⊢
    rcases hd with h | h | h | h
    · exact .inr (.inr (.inl h))
    · exact .inl h
    · exact .inr (.inl h)
    · exact .inr (.inr (.inr h))
end
end Go.Eng
namespace Go.Proofs.Ytlpheckjogphmaa
open Go Go.Eng Go.Proofs Go.NatM Go.RowKit

end Go.Proofs.Ytlpheckjogphmaa

set_option linter.unusedSectionVars false
namespace Go.Eng
open Go Go.Proofs Go.NatM Go.RowKit Go.Proofs.Ytlpheckjogphmaa
/-- lo holds what done holds, at the places that t names -/
def Lk (t : Int × Int → Int × Int) (done lo : GL) : Prop := lo.map (fun p => (p.1, ival p.2)) = done.map (fun p => (t p.1, ival p.2))
/-- a place's number, if it is there -/
def zk (l : GL) (k : Int × Int) : Option Int := (lkp l k).map ival
theorem Lk.keys {t : Int × Int → Int × Int} {done lo : GL} (h : Lk t done lo) : lo.map (·.1) = done.map (fun p => t p.1) := by
  have := congrArg (List.map Prod.fst) h
  simpa [List.map_map, Function.comp_def] using this
theorem Lk.snoc {t : Int × Int → Int × Int} {done lo : GL} (h : Lk t done lo) {p : (Int × Int) × IV} {y : IV} (e : ival y = ival p.2) : Lk t (done ++ [p]) (lo ++ [(t p.1, y)]) := by
  unfold Lk at h ⊢
  rw [List.map_append, List.map_append, h]
  simp [e]
theorem Lk.zk {t : Int × Int → Int × Int} (ht : ∀ a b, t a = t b → a = b) {done lo : GL} (h : Lk t done lo) (k : Int × Int) : zk lo (t k) = Go.Eng.zk done k := by
  induction lo generalizing done with
  | nil =>
    cases done with
    | nil => rfl
    | cons p done => simp [Lk] at h
  | cons q lo ih =>
    cases done with
    | nil => simp [Lk] at h
    | cons p done =>
      obtain ⟨qk, qv⟩ := q
      obtain ⟨pk, pv⟩ := p
      simp only [Lk, List.map_cons, List.cons.injEq, Prod.mk.injEq] at h
      have ih := ih (done := done) h.2
      unfold Go.Eng.zk at ih ⊢
      simp only [lkp]
      by_cases hk : pk = k
      · subst hk
        rw [if_pos h.1.1, if_pos rfl]
        simp [h.1.2]
      · rw [if_neg (fun e => hk (ht _ _ (h.1.1.symm.trans e))), if_neg hk]
        exact ih
theorem Lk.new {t : Int × Int → Int × Int} (ht : ∀ a b, t a = t b → a = b) {l done lo todo : GL} {p : (Int × Int) × IV} (h : Lk t done lo) (hn : (l.map (·.1)).Nodup) (hp : l.Perm (done ++ [p] ++ todo)) : t p.1 ∉ lo.map (·.1) := by
  rw [h.keys]
  intro hm
  obtain ⟨q, hq, e⟩ := List.mem_map.1 hm
  have h1 : ((done ++ [p] ++ todo).map (·.1)).Nodup := ((hp.map _).nodup_iff).1 hn
  rw [List.map_append, List.map_append] at h1
  have h2 := (List.nodup_append.1 h1).1
  have h3 := (List.nodup_append.1 h2).2.2 _ (List.mem_map.2 ⟨q, hq, rfl⟩) p.1 (by simp)
  exact h3 (ht _ _ e)
theorem Lk.len {t : Int × Int → Int × Int} {done lo : GL} (h : Lk t done lo) : lo.length = done.length := by
  have := congrArg List.length h
  simpa using this
section
variable {S : Nat → Prop} {w0 w w' : World} {L : List VB} {D : List DP}
theorem Fr.mp_lt {K V : Type} [DecidableEq K] {f : K → Value} {g : V → Value} {m : Nat} {l : List (K × V)} (hF : Fr w0 w L D S) (h : dpMp f g m l ∈ D) : m < w.heap.size := by
  obtain ⟨es, k, hm, _⟩ := hF.mp h
  exact (Array.getElem?_eq_some_iff.1 hm).1
theorem nf_it {K V : Type} {f : K → Value} {g : V → Value} {r b m : Nat} {l d t : List (K × V)} (h : r ≠ m) (h' : b ≠ m) : ¬ (dpIt f g r b l d t).fp m := by
  unfold dpIt
  rintro (e | e)
  · exact h e.symm
  · exact h' e.symm
/-- a new grid, taken apart -/
theorem Fr.newParts {go mo r c : Nat} {lo : GL} (hF : Fr w0 w L D S) (hE : Ext w w') (hg : w.heap.size ≤ go) (hm : w.heap.size ≤ mo) (hG : Gr w'.heap go mo r c lo) : Fr w0 w' L (dpMp spot ivA mo lo :: dpCb go 96 (grc r c mo) :: dpGv lo :: D) S := by
  have h1 := (Fr.addGv (hF.exts hE) hG.vals)
  have h2 : Fr w0 w' L (dpCb go 96 (grc r c mo) :: dpGv lo :: D) S := h1.add _ (by unfold dpCb; exact hG.cells) fun v hv hk => by
    unfold dpCb at hk
    have := (hF.vars v hv).2.lt
    have hk2 : v.b = go := hk
    omega
  refine h2.add _ (by unfold dpMp; exact hG.mp) fun v hv hk => ?_
  unfold dpMp at hk
  have := (hF.vars v hv).2.lt
  have hk2 : v.b = mo := hk
  omega
/-- a place more -/
theorem Fr.gvSnoc {lo : GL} {q : Int × Int} {y : IV} {z : Int} (hF : Fr w0 w L D S) (h1 : dpGv lo ∈ D) (hy : LI w.heap z y) (hn : y.m.n ≤ 16384) : Fr w0 w L (dpGv (lo ++ [(q, y)]) :: D) S := by
  have h6 := hF.data _ h1
  unfold dpGv at h6
  refine Fr.addGv hF fun p hp => ?_
  rcases List.mem_append.1 hp with hp | hp
  · exact h6 p hp
  · simp only [List.mem_cons, List.not_mem_nil, or_false] at hp
    subst hp
    exact ⟨hy.val.symm ▸ hy, hn⟩
end
def flp (k : Int × Int) : Int × Int := (k.2, k.1)
theorem flp_inj (a b : Int × Int) (h : flp a = flp b) : a = b := by
  obtain ⟨a1, a2⟩ := a
  obtain ⟨b1, b2⟩ := b
  simp only [flp, Prod.mk.injEq] at h
  rw [h.1, h.2]
def idk (k : Int × Int) : Int × Int := k
theorem idk_inj (a b : Int × Int) (h : idk a = idk b) : a = b := h
end Go.Eng
namespace Go.Proofs.Ytlpheckjogphmaa
open Go Go.Eng Go.Proofs Go.NatM Go.RowKit

/-- a new grid that holds what l holds, at the places that t names -/
def RetTn (w : World) (r c : Nat) (t : Int × Int → Int × Int) (l : GL) (e : Ending) (w' : World) : Prop := ∃ l', RetG w r c l' e w' ∧ l'.length = l.length ∧ ∀ k, zk l' (t k) = zk l k
theorem pm_mem {α : Type} {l a b b' : List α} {p : α} (h : l.Perm (a ++ b)) (k : b.Perm (p :: b')) : p ∈ l := h.mem_iff.2 (List.mem_append_right _ (k.mem_iff.2 (List.mem_cons_self ..)))
set_option maxHeartbeats 2000000 in
theorem gturn_ok (w : World) (g m r c : Nat) (l : GL) (hG : Gr w.heap g m r c l) (hl : l.length ≤ 1048576) : Cl Try.prog 20 #[.pointer (some ⟨g, 0, none⟩)] w (RetTn w c r flp l) := by
  have hn : (l.map (·.1)).Nodup := by obtain ⟨es, k, _, h⟩ := hG.mp; exact h.keys
  have hF := Gr.frD hG (Fr.refS w fun _ => False)
  have hgm := hG.ne
  clear hG
  refine enter Try.func20 rfl rfl rfl ?_
  repeat' (first | (refine TL.isOp ?_; first | (refine TL.isCall ?_; refine TL.call rfl rfl ?_; first | (refine (blank_ok _ c r).mono ?_; rintro _ wy ⟨go, mo, rfl, hE, hgo, hmo, hGo⟩; have hz := hF.exs.size; have hmm := Nat.ne_of_lt (Nat.lt_of_lt_of_le (hF.mp_lt (m := m) (l := l) (by repeat (first | exact memH | apply memT))) hmo); replace hF := Fr.newParts hF hE hgo hmo hGo; replace hgo := Nat.le_trans hz hgo; replace hmo := Nat.le_trans hz hmo; have hgom := hGo.ne; clear hE hGo hz; refine Back.mk ?_)) | (apply TL.ev; (case hd => rfl); (case h => (first | exact ev_simple rfl | (apply Ev.isBin; first | exact ev_eqlP rfl rfl rfl) | (apply Ev.isLoad; first | exact ev_loadCb hF rfl (by repeat (first | exact memH | apply memT)) rfl) | exact ev_fieldAddr rfl | exact ev_nilCheck rfl))) | (refine TL.rangeFr (f := spot) (g := ivA) (l := l) hF rfl (by repeat (first | exact memH | apply memT)) rfl ?_; have hr := hF.exs.size; clear hF; intro wr rr er hF; replace hr := Nat.le_trans hr (Nat.le_of_eq er.symm); clear er)) | (refine TF.is ?_; first | refine TF.nil ?_ | refine TF.e rfl ?_ | (refine TF.pick rfl ?_; first | (apply TFo.ev; (case hd => rfl); (case h => (intro wh hF; first | exact ev_simple rfl | (apply Ev.isLoad; first | exact ev_loadCb hF rfl (by repeat (first | exact memH | apply memT)) rfl) | exact ev_fieldAddr rfl | exact ev_nilCheck rfl))))) | (refine T.is ?_; first | refine T.seq ?_ | refine T.region ?_ | refine T.block ?_ | refine T.cond_f rfl ?_ | refine T.skip ?_ | (refine T.regionFr hF 3 10 (.s 0 (.s 1 (.s 2 (.s 3 (.s 4 (.s 5 (.s 6 (.s 7 (.e 8 (.s 9 .nil)))))))))) mixed (by kernel_rfl) ?_; clear hF; intro wr hF)) | (refine G.is ?_; first | refine G.next ?_ | refine G.only ?_ | refine G.tree rfl (by first | exact hF | exact hF.weak (List.sublist_append_right _ _) (by repeat (first | exact allR | apply allT)) | exact hF.weak (by repeat (first | exact List.Sublist.refl _ | apply List.Sublist.cons)) (by repeat (first | exact allR | apply allT)) | exact hF.weak (by repeat (first | exact List.Sublist.refl _ | apply List.Sublist.cons)) (by repeat (first | exact allN | refine allH (by repeat (first | exact memH | apply memT)) ?_))) ?_) | refine TL.nil ?_)
  have hmr := hF.it_mp (m := m) (l2 := l) (by repeat (first | exact memH | apply memT)) (by repeat (first | exact memH | apply memT))
  have hmor := hF.it_mp (m := mo) (l2 := ([] : GL)) (by repeat (first | exact memH | apply memT)) (by repeat (first | exact memH | apply memT))
  have hgr := hF.it_cb (g := g) (cs := grc r c m) (by repeat (first | exact memH | apply memT)) (by repeat (first | exact memH | apply memT))
  have hgor := hF.it_cb (g := go) (cs := grc c r mo) (by repeat (first | exact memH | apply memT)) (by repeat (first | exact memH | apply memT))
  refine T.loop (α := GL × GL × GL) (fun x => [(0, .pointer (some ⟨g, 0, none⟩)), (3, .pointer (some ⟨go, 0, none⟩)), (21, .pointer (some ⟨rr, 0, none⟩))])
    (fun x w' => l.Perm (x.1 ++ x.2.1) ∧ Lk flp x.1 x.2.2 ∧ Fr w w' [] [dpIt spot ivA rr m l x.1 x.2.1, dpMp spot ivA mo x.2.2, dpCb go 96 (grc c r mo), dpGv x.2.2, dpMp spot ivA m l, dpCb g 96 (grc r c m), dpGv l]) (fun x => x.2.1.length) ([], l, []) (by repeat (first | exact Sub.nil _ | refine Sub.cons rfl ?_ | refine Sub.cons' rfl (int_congr (by omega)) ?_)) ⟨List.Perm.refl _, rfl, hF⟩ ?_
  clear hF
  rintro ⟨done, todo, lo⟩ w1 ⟨hp, hlk, hF⟩
  dsimp only at hp hlk hF ⊢
  repeat' (first | (refine TL.isOp ?_; first | (refine TL.isCall ?_; refine TL.call rfl rfl ?_; first | (refine (zleast_ok _ p.2 (Fr.gv (l := l) hF (by repeat (first | exact memH | apply memT)) p (pm_mem hp ht)).1.g (Nat.le_trans (Fr.gv (l := l) hF (by repeat (first | exact memH | apply memT)) p (pm_mem hp ht)).2 (by decide))).mono ?_; rintro _ wy ⟨y, rfl, hy, hE, hyn⟩; have hyn2 := Nat.le_trans hyn (Fr.gv (l := l) hF (by repeat (first | exact memH | apply memT)) p (pm_mem hp ht)).2; have hyv := hy.val; replace hF := Fr.addLI (hF.exts hE) hy; clear hE hy; refine Back.mk ?_)) | (apply TL.ev; (case hd => rfl); (case h => (first | exact ev_simple rfl | exact ev_entry hF (by repeat (first | exact memH | apply memT)) rfl))) | (refine TL.storeAFr hF rfl rfl rfl rfl (by refine ⟨?_, ?_⟩; (focus (repeat (first | apply SetV.head | apply SetV.tail))); rfl) rfl ?_; clear hF; intro ws hF) | (refine TL.nextFr hF (.inl hr) (nfC (nf_mp hmor) (nfC (nf_cb hgor) (nfC nf_gv (nfC (nf_mp hmr) (nfC (nf_cb hgr) (nfC nf_gv nfN)))))) rfl rfl (fun h0 wn hFn => ?_) (fun p todo' wn ht hFn => ?_) <;> clear hF <;> have hF := hFn <;> clear hFn) | (refine TL.allocFr hF (d := 4) rfl rfl ?_; clear hF; intro w4 b4 hF) | (refine TL.allocFr hF (d := 5) rfl rfl ?_; clear hF; intro w5 b5 hF) | (refine TL.mupd (Fr.rot3 hF) (.inl hmo) (nfC nf_li (nfC (nf_it hmor.symm hmm) (nfC (nf_cb hgom) (nfC nf_gv (nfC (nf_mp hmm) (nfC (nf_cb (hF.cb_ne (g := g) (m := mo) (l := lo) (by repeat (first | exact memH | apply memT)) (by repeat (first | exact memH | apply memT)))) (nfC nf_gv nfN))))))) (q := flp p.1) (v := y) rfl rfl rfl ?_; clear hF; intro wu hF)) | (refine TF.is ?_; first | refine TF.nil ?_ | refine TF.e rfl ?_ | (refine TF.pick rfl ?_; first | (apply TFo.ev; (case hd => rfl); (case h => (intro wh hF; first | exact ev_simple rfl | (apply Ev.isLoad; first | exact ev_loadFr hF rfl (by refine ⟨?_, ?_⟩; (focus (repeat (first | exact InV.head | apply InV.tail))); rfl) | exact ev_loadAFr hF rfl (by refine ⟨?_, ?_⟩; (focus (repeat (first | exact InV.head | apply InV.tail))); rfl) | exact ev_loadCb hF rfl (by repeat (first | exact memH | apply memT)) rfl) | exact ev_fieldAddr rfl | exact ev_buildX rfl rfl | exact ev_nilCheck rfl))))) | (refine T.is ?_; first | refine T.seq ?_ | refine T.region ?_ | refine T.block ?_ | refine T.cond_t rfl ?_ | refine T.cond_f rfl ?_ | refine T.exit ?_ | refine T.ret ?_ | refine T.skip ?_ | (refine T.regionFr hF 7 11 (.s 0 (.s 1 (.s 2 (.s 3 (.s 4 (.s 5 (.s 6 (.s 7 (.s 8 (.s 9 (.e 10 (.e 11 .nil)))))))))))) mixed (by kernel_rfl) ?_; clear hF; intro wr hF)) | (refine G.is ?_; first | refine G.next ?_ | refine G.blockN ?_ | refine G.blockE ?_ | refine G.thenE ?_ | refine G.only ?_ | refine G.treeEnd rfl ?_ | refine G.tree rfl (by first | exact hF | exact hF.weak (List.sublist_append_right _ _) (by repeat (first | exact allR | apply allT)) | exact hF.weak (by repeat (first | exact List.Sublist.refl _ | apply List.Sublist.cons)) (by repeat (first | exact allR | apply allT)) | exact hF.weak (by repeat (first | exact List.Sublist.refl _ | apply List.Sublist.cons)) (by repeat (first | exact allN | refine allH (by repeat (first | exact memH | apply memT)) ?_))) ?_) | refine TL.nil ?_)
  · subst h0
    rw [List.append_nil] at hp
    refine G.ret1 rfl rfl ⟨lo, ⟨go, mo, rfl, hF.ext, hgo, hmo, hF.gr (by repeat (first | exact memH | apply memT)) (by repeat (first | exact memH | apply memT)) (by repeat (first | exact memH | apply memT))⟩, by rw [hlk.len, hp.length_eq], fun k => ?_⟩
    rw [hlk.zk flp_inj]
    unfold zk
    rw [lkp_perm hn hp]
  · have hnew := hlk.new flp_inj hn (step_perm hp ht)
    rw [ups_new hnew] at hF
    have hyl := Fr.li hF (x := y) (z := ival p.2) (by repeat (first | exact memH | apply memT))
    refine G.again (done ++ [p], todo', lo ++ [(flp p.1, y)]) (by repeat (first | exact Sub.nil _ | refine Sub.cons rfl ?_ | refine Sub.cons' rfl (int_congr (by omega)) ?_)) ⟨step_perm hp ht, hlk.snoc hyv, ?_⟩ (step_mu ht)
    exact (Fr.gvSnoc hF (lo := lo) (q := flp p.1) (by repeat (first | exact memH | apply memT)) hyl hyn2).weak (List.nil_sublist _) (allH (by repeat (first | exact memH | apply memT)) (allH (by repeat (first | exact memH | apply memT)) (allH (by repeat (first | exact memH | apply memT)) (allH (by repeat (first | exact memH | apply memT)) (allH (by repeat (first | exact memH | apply memT)) (allH (by repeat (first | exact memH | apply memT)) (allH (by repeat (first | exact memH | apply memT)) allN)))))))
set_option maxHeartbeats 2000000 in
theorem gcopy_ok (w : World) (g m r c : Nat) (l : GL) (hG : Gr w.heap g m r c l) (hl : l.length ≤ 1048576) : Cl Try.prog 38 #[.pointer (some ⟨g, 0, none⟩)] w (RetTn w r c idk l) := by
  have hn : (l.map (·.1)).Nodup := by obtain ⟨es, k, _, h⟩ := hG.mp; exact h.keys
  have hF := Gr.frD hG (Fr.refS w fun _ => False)
  have hgm := hG.ne
  clear hG
  refine enter Try.func38 rfl rfl rfl ?_
  repeat' (first | (refine TL.isOp ?_; first | (refine TL.isCall ?_; refine TL.call rfl rfl ?_; first | (refine (blank_ok _ r c).mono ?_; rintro _ wy ⟨go, mo, rfl, hE, hgo, hmo, hGo⟩; have hz := hF.exs.size; have hmm := Nat.ne_of_lt (Nat.lt_of_lt_of_le (hF.mp_lt (m := m) (l := l) (by repeat (first | exact memH | apply memT))) hmo); replace hF := Fr.newParts hF hE hgo hmo hGo; replace hgo := Nat.le_trans hz hgo; replace hmo := Nat.le_trans hz hmo; have hgom := hGo.ne; clear hE hGo hz; refine Back.mk ?_)) | (apply TL.ev; (case hd => rfl); (case h => (first | exact ev_simple rfl | (apply Ev.isBin; first | exact ev_eqlP rfl rfl rfl) | (apply Ev.isLoad; first | exact ev_loadCb hF rfl (by repeat (first | exact memH | apply memT)) rfl) | exact ev_fieldAddr rfl | exact ev_nilCheck rfl))) | (refine TL.rangeFr (f := spot) (g := ivA) (l := l) hF rfl (by repeat (first | exact memH | apply memT)) rfl ?_; have hr := hF.exs.size; clear hF; intro wr rr er hF; replace hr := Nat.le_trans hr (Nat.le_of_eq er.symm); clear er)) | (refine TF.is ?_; first | refine TF.nil ?_ | refine TF.e rfl ?_ | (refine TF.pick rfl ?_; first | (apply TFo.ev; (case hd => rfl); (case h => (intro wh hF; first | exact ev_simple rfl | (apply Ev.isLoad; first | exact ev_loadCb hF rfl (by repeat (first | exact memH | apply memT)) rfl) | exact ev_fieldAddr rfl | exact ev_nilCheck rfl))))) | (refine T.is ?_; first | refine T.seq ?_ | refine T.region ?_ | refine T.block ?_ | refine T.cond_f rfl ?_ | refine T.skip ?_ | (refine T.regionFr hF 3 10 (.s 0 (.s 1 (.s 2 (.s 3 (.s 4 (.s 5 (.s 6 (.s 7 (.e 8 (.s 9 .nil)))))))))) mixed (by kernel_rfl) ?_; clear hF; intro wr hF)) | (refine G.is ?_; first | refine G.next ?_ | refine G.only ?_ | refine G.tree rfl (by first | exact hF | exact hF.weak (List.sublist_append_right _ _) (by repeat (first | exact allR | apply allT)) | exact hF.weak (by repeat (first | exact List.Sublist.refl _ | apply List.Sublist.cons)) (by repeat (first | exact allR | apply allT)) | exact hF.weak (by repeat (first | exact List.Sublist.refl _ | apply List.Sublist.cons)) (by repeat (first | exact allN | refine allH (by repeat (first | exact memH | apply memT)) ?_))) ?_) | refine TL.nil ?_)
  have hmr := hF.it_mp (m := m) (l2 := l) (by repeat (first | exact memH | apply memT)) (by repeat (first | exact memH | apply memT))
  have hmor := hF.it_mp (m := mo) (l2 := ([] : GL)) (by repeat (first | exact memH | apply memT)) (by repeat (first | exact memH | apply memT))
  have hgr := hF.it_cb (g := g) (cs := grc r c m) (by repeat (first | exact memH | apply memT)) (by repeat (first | exact memH | apply memT))
  have hgor := hF.it_cb (g := go) (cs := grc r c mo) (by repeat (first | exact memH | apply memT)) (by repeat (first | exact memH | apply memT))
  refine T.loop (α := GL × GL × GL) (fun x => [(0, .pointer (some ⟨g, 0, none⟩)), (3, .pointer (some ⟨go, 0, none⟩)), (21, .pointer (some ⟨rr, 0, none⟩))])
    (fun x w' => l.Perm (x.1 ++ x.2.1) ∧ Lk idk x.1 x.2.2 ∧ Fr w w' [] [dpIt spot ivA rr m l x.1 x.2.1, dpMp spot ivA mo x.2.2, dpCb go 96 (grc r c mo), dpGv x.2.2, dpMp spot ivA m l, dpCb g 96 (grc r c m), dpGv l]) (fun x => x.2.1.length) ([], l, []) (by repeat (first | exact Sub.nil _ | refine Sub.cons rfl ?_ | refine Sub.cons' rfl (int_congr (by omega)) ?_)) ⟨List.Perm.refl _, rfl, hF⟩ ?_
  clear hF
  rintro ⟨done, todo, lo⟩ w1 ⟨hp, hlk, hF⟩
  dsimp only at hp hlk hF ⊢
  repeat' (first | (refine TL.isOp ?_; first | (refine TL.isCall ?_; refine TL.call rfl rfl ?_; first | (refine (zleast_ok _ p.2 (Fr.gv (l := l) hF (by repeat (first | exact memH | apply memT)) p (pm_mem hp ht)).1.g (Nat.le_trans (Fr.gv (l := l) hF (by repeat (first | exact memH | apply memT)) p (pm_mem hp ht)).2 (by decide))).mono ?_; rintro _ wy ⟨y, rfl, hy, hE, hyn⟩; have hyn2 := Nat.le_trans hyn (Fr.gv (l := l) hF (by repeat (first | exact memH | apply memT)) p (pm_mem hp ht)).2; have hyv := hy.val; replace hF := Fr.addLI (hF.exts hE) hy; clear hE hy; refine Back.mk ?_)) | (apply TL.ev; (case hd => rfl); (case h => (first | exact ev_simple rfl | exact ev_entry hF (by repeat (first | exact memH | apply memT)) rfl))) | (refine TL.storeAFr hF rfl rfl rfl rfl (by refine ⟨?_, ?_⟩; (focus (repeat (first | apply SetV.head | apply SetV.tail))); rfl) rfl ?_; clear hF; intro ws hF) | (refine TL.nextFr hF (.inl hr) (nfC (nf_mp hmor) (nfC (nf_cb hgor) (nfC nf_gv (nfC (nf_mp hmr) (nfC (nf_cb hgr) (nfC nf_gv nfN)))))) rfl rfl (fun h0 wn hFn => ?_) (fun p todo' wn ht hFn => ?_) <;> clear hF <;> have hF := hFn <;> clear hFn) | (refine TL.allocFr hF (d := 4) rfl rfl ?_; clear hF; intro w4 b4 hF) | (refine TL.allocFr hF (d := 5) rfl rfl ?_; clear hF; intro w5 b5 hF) | (refine TL.mupd (Fr.rot3 hF) (.inl hmo) (nfC nf_li (nfC (nf_it hmor.symm hmm) (nfC (nf_cb hgom) (nfC nf_gv (nfC (nf_mp hmm) (nfC (nf_cb (hF.cb_ne (g := g) (m := mo) (l := lo) (by repeat (first | exact memH | apply memT)) (by repeat (first | exact memH | apply memT)))) (nfC nf_gv nfN))))))) (q := idk p.1) (v := y) rfl rfl rfl ?_; clear hF; intro wu hF)) | (refine TF.is ?_; first | refine TF.nil ?_ | refine TF.e rfl ?_ | (refine TF.pick rfl ?_; first | (apply TFo.ev; (case hd => rfl); (case h => (intro wh hF; first | exact ev_simple rfl | (apply Ev.isLoad; first | exact ev_loadAFr hF rfl (by refine ⟨?_, ?_⟩; (focus (repeat (first | exact InV.head | apply InV.tail))); rfl) | exact ev_loadCb hF rfl (by repeat (first | exact memH | apply memT)) rfl) | exact ev_fieldAddr rfl | exact ev_nilCheck rfl))))) | (refine T.is ?_; first | refine T.seq ?_ | refine T.region ?_ | refine T.block ?_ | refine T.cond_t rfl ?_ | refine T.cond_f rfl ?_ | refine T.exit ?_ | refine T.ret ?_ | refine T.skip ?_ | (refine T.regionFr hF 7 7 (.s 0 (.s 1 (.s 2 (.s 3 (.s 4 (.s 5 (.e 6 (.e 7 .nil)))))))) mixed (by kernel_rfl) ?_; clear hF; intro wr hF)) | (refine G.is ?_; first | refine G.next ?_ | refine G.blockN ?_ | refine G.blockE ?_ | refine G.thenE ?_ | refine G.only ?_ | refine G.treeEnd rfl ?_ | refine G.tree rfl (by first | exact hF | exact hF.weak (List.sublist_append_right _ _) (by repeat (first | exact allR | apply allT)) | exact hF.weak (by repeat (first | exact List.Sublist.refl _ | apply List.Sublist.cons)) (by repeat (first | exact allR | apply allT)) | exact hF.weak (by repeat (first | exact List.Sublist.refl _ | apply List.Sublist.cons)) (by repeat (first | exact allN | refine allH (by repeat (first | exact memH | apply memT)) ?_))) ?_) | refine TL.nil ?_)
  · subst h0
    rw [List.append_nil] at hp
    refine G.ret1 rfl rfl ⟨lo, ⟨go, mo, rfl, hF.ext, hgo, hmo, hF.gr (by repeat (first | exact memH | apply memT)) (by repeat (first | exact memH | apply memT)) (by repeat (first | exact memH | apply memT))⟩, by rw [hlk.len, hp.length_eq], fun k => ?_⟩
    rw [hlk.zk idk_inj]
    unfold zk
    rw [lkp_perm hn hp]
  · have hnew := hlk.new idk_inj hn (step_perm hp ht)
    rw [ups_new hnew] at hF
    have hyl := Fr.li hF (x := y) (z := ival p.2) (by repeat (first | exact memH | apply memT))
    refine G.again (done ++ [p], todo', lo ++ [(idk p.1, y)]) (by repeat (first | exact Sub.nil _ | refine Sub.cons rfl ?_ | refine Sub.cons' rfl (int_congr (by omega)) ?_)) ⟨step_perm hp ht, hlk.snoc hyv, ?_⟩ (step_mu ht)
    exact (Fr.gvSnoc hF (lo := lo) (q := idk p.1) (by repeat (first | exact memH | apply memT)) hyl hyn2).weak (List.nil_sublist _) (allH (by repeat (first | exact memH | apply memT)) (allH (by repeat (first | exact memH | apply memT)) (allH (by repeat (first | exact memH | apply memT)) (allH (by repeat (first | exact memH | apply memT)) (allH (by repeat (first | exact memH | apply memT)) (allH (by repeat (first | exact memH | apply memT)) (allH (by repeat (first | exact memH | apply memT)) allN)))))))
end Go.Proofs.Ytlpheckjogphmaa

set_option linter.unusedSectionVars false
namespace Go.Eng
open Go Go.Proofs Go.NatM Go.RowKit Go.Proofs.Ytlpheckjogphmaa
/-- the number at a place; 0 where nothing stands -/
def zv (l : GL) (k : Int × Int) : Int := ival (at0 l k)
/-- nothing that stands is 0 -/
def NZ (l : GL) : Prop := ∀ p ∈ l, ival p.2 ≠ 0
def bigZ (z : Int) : Prop := 1048576 < bl z.natAbs
theorem ival_nat (x : IV) : (ival x).natAbs = NatM.val x.m.l := by unfold ival; exact sgn_abs ..
theorem big_iff (x : IV) : big x ↔ bigZ (ival x) := by unfold big bigZ; rw [ival_nat]
theorem zv_none {l : GL} {k : Int × Int} (h : lkp l k = none) : zv l k = 0 := by unfold zv at0; rw [h]; rfl
theorem zv_some {l : GL} {k : Int × Int} {y : IV} (h : lkp l k = some y) : zv l k = ival y := by unfold zv at0; rw [h]; rfl
theorem zv_zk {l : GL} {k : Int × Int} : zv l k = (zk l k).getD 0 := by
  unfold zk
  cases h : lkp l k with
  | none => rw [zv_none h]; rfl
  | some y => rw [zv_some h]; rfl
theorem NZ.iff {l : GL} (h : NZ l) (k : Int × Int) : (lkp l k).isSome = true ↔ zv l k ≠ 0 := by
  cases hq : lkp l k with
  | none => simp [zv_none hq]
  | some y => rw [zv_some hq]; simp; exact h _ (lkp_mem hq)
theorem NZ.keys {l : GL} (h : NZ l) (k : Int × Int) : k ∈ l.map (·.1) ↔ zv l k ≠ 0 := by
  rw [← h.iff k]
  cases hq : lkp l k with
  | none => simp [lkp_none.1 hq]
  | some y => simp; exact ⟨y, lkp_mem hq⟩
/-- one function, one number of places -/
theorem NZ.len {l l' : GL} (h : NZ l) (h' : NZ l') (hn : (l.map (·.1)).Nodup) (hn' : (l'.map (·.1)).Nodup) (e : ∀ k, zv l k = zv l' k) : l.length = l'.length := by
  have hp : (l.map (·.1)).Perm (l'.map (·.1)) := (List.perm_ext_iff_of_nodup hn hn').2 fun k => by rw [h.keys, h'.keys, e]
  simpa using hp.length_eq
theorem zv_perm {l l' : GL} (hn : (l.map (·.1)).Nodup) (h : l.Perm l') (k : Int × Int) : zv l k = zv l' k := by unfold zv at0; rw [lkp_perm hn h]
theorem NZ.sub {l l' : GL} (h : NZ l) (hs : ∀ p ∈ l', p ∈ l) : NZ l' := fun p hm => h p (hs p hm)
/-- a place's turn: taken away if it is 0 -/
def putL (l : GL) (k : Int × Int) (y : IV) : GL := if ival y = 0 then del l k else ups l k y
theorem putL_nodup {l : GL} (hn : (l.map (·.1)).Nodup) (k : Int × Int) (y : IV) : ((putL l k y).map (·.1)).Nodup := by
  unfold putL; split
  · exact del_nodup hn k
  · exact ups_nodup hn k y
theorem zv_putL {l : GL} (hn : (l.map (·.1)).Nodup) (k : Int × Int) (y : IV) (x : Int × Int) : zv (putL l k y) x = if k = x then ival y else zv l x := by
  unfold putL zv at0
  split
  · rename_i h
    rw [lkp_del hn]
    by_cases hk : k = x
    · simp [hk, h]; rfl
    · simp [hk]
  · rw [lkp_ups]
    by_cases hk : k = x <;> simp [hk]
theorem NZ.put {l : GL} (h : NZ l) (k : Int × Int) (y : IV) : NZ (putL l k y) := by
  unfold putL
  split
  · exact h.sub fun p hp => (del_sub l k).subset hp
  · rename_i hy
    intro p hp
    rcases ups_mem hp with rfl | hp
    · exact hy
    · exact h p hp
theorem putL_len (l : GL) (k : Int × Int) (y : IV) : ((putL l k y).length : Int) = (l.length : Int) - (if (lkp l k).isSome then 1 else 0) + (if ival y ≠ 0 then 1 else 0) := by
  unfold putL
  split
  · rename_i h
    rw [del_length]
    cases hq : lkp l k with
    | none => simp [h]
    | some v =>
      have := List.length_pos_of_mem (lkp_mem hq)
      simp [h]; omega
  · rename_i h
    rw [ups_length]
    cases hq : lkp l k <;> simp [h] <;> omega
theorem zv_inRow (i : Int) (l : GL) (x y : Int) : zv (inRow i l) (x, y) = if x = i then zv l (x, y) else 0 := by
  unfold zv at0
  rw [lkp_inRow]
  by_cases h : x = i <;> simp [h]; rfl
theorem zv_snoc {l : GL} {p : (Int × Int) × IV} (h : p.1 ∉ l.map (·.1)) (x : Int × Int) : zv (l ++ [p]) x = if p.1 = x then ival p.2 else zv l x := by
  have := ups_new h p.2
  unfold zv at0
  rw [← this, lkp_ups]
  by_cases hk : p.1 = x <;> simp [hk]
/-- a grid's numbers are not too long -/
theorem small_of {H : Array Obj} {y : IV} {z : Int} (h : LI H z y) (hn : y.m.n ≤ 16384) : ¬ bigZ z := by
  unfold bigZ
  have h1 := h.val
  have h2 : z.natAbs < 18446744073709551616 ^ y.m.n := by
    rw [← h1, ival_nat]
    have := val_lt h.g.u
    rwa [h.g.s.len] at this
  have h3 : z.natAbs < 2 ^ (64 * y.m.n) := by rw [Nat.pow_mul]; exact h2
  have h4 := bl_le.2 h3
  omega
theorem bigZ_zero : ¬ bigZ 0 := by unfold bigZ; rw [show bl (Int.natAbs 0) = 0 from rfl]; omega
theorem gv_small {H : Array Obj} {l : GL} (h : ∀ p ∈ l, LI H (ival p.2) p.2 ∧ p.2.m.n ≤ 16384) (k : Int × Int) : ¬ bigZ (zv l k) := by
  cases hq : lkp l k with
  | none => rw [zv_none hq]; exact bigZ_zero
  | some y => rw [zv_some hq]; have := h _ (lkp_mem hq); exact small_of this.1 this.2
theorem few_of {H : Array Obj} {y : IV} {z : Int} (h : LI H z y) (hb : ¬ bigZ z) : y.m.n ≤ 16384 := by
  rw [← h.g.s.len, h.d]
  refine words_bl ?_
  unfold bigZ at hb
  omega
end Go.Eng
namespace Go.Proofs.Ytlpheckjogphmaa
open Go Go.Eng Go.Proofs Go.NatM Go.RowKit
theorem gput_ok (w : World) (g m r c : Nat) (l : GL) (p : Int × Int) (x : IV) (z : Int) (hG : Gr w.heap g m r c l) (hx : LI w.heap z x) (hn : x.m.n ≤ 16384) :
    Cl Try.prog 49 #[.pointer (some ⟨g, 0, none⟩), spot p, ivA x] w (RetW w g m r c (putL l p x) (.tuple #[])) := by
  have e := hx.val
  unfold putL
  rw [e]
  by_cases hz : z = 0
  · rw [if_pos hz]; subst hz; exact gput_zero w g m r c l p x hG hx hn
  · rw [if_neg hz]; exact gput_put w g m r c l p x z hG hx hn hz
end Go.Proofs.Ytlpheckjogphmaa

set_option linter.unusedSectionVars false
namespace Go.Eng
open Go Go.Proofs Go.NatM Go.RowKit Go.Proofs.Ytlpheckjogphmaa
section
variable {S : Nat → Prop} {w0 w w' : World} {L : List VB} {D : List DP}
theorem Fr.mp_nodup {m : Nat} {l : GL} (hF : Fr w0 w L D S) (h : dpMp spot ivA m l ∈ D) : (l.map (·.1)).Nodup := by
  obtain ⟨es, k, _, hr⟩ := hF.mp h
  exact hr.keys
end
theorem NZ.of_zk {l lo : GL} (h : NZ l) (hn : (lo.map (·.1)).Nodup) (e : ∀ k, zk lo k = zk l k) : NZ lo := fun p hp => by
  have h1 := e p.1
  unfold zk at h1
  rw [lkp_of_mem (x := p.1) (v := p.2) hn hp] at h1
  cases hq : lkp l p.1 with
  | none => rw [hq] at h1; cases h1
  | some y =>
    rw [hq] at h1
    simp only [Option.map_some, Option.some.injEq] at h1
    rw [h1]
    exact h _ (lkp_mem hq)
/-- the step of a sum -/
theorem add_step {l l2 done todo lo : GL} {p : (Int × Int) × IV} {y : IV} (hn2 : (l2.map (·.1)).Nodup) (hno : (lo.map (·.1)).Nodup) (hp : l2.Perm (done ++ [p] ++ todo)) (h : ∀ k, zv lo k = zv l k + zv done k) (hy : ival y = zv lo p.1 + ival p.2) : ∀ k, zv (putL lo p.1 y) k = zv l k + zv (done ++ [p]) k := by
  have hd : p.1 ∉ done.map (·.1) := by
    have h1 : ((done ++ [p] ++ todo).map (·.1)).Nodup := ((hp.map _).nodup_iff).1 hn2
    rw [List.map_append, List.map_append] at h1
    have h2 := (List.nodup_append.1 (List.nodup_append.1 h1).1).2.2
    exact fun hm => h2 _ hm p.1 (by simp) rfl
  intro k
  rw [zv_putL hno, zv_snoc hd, hy]
  by_cases hk : p.1 = k
  · subst hk
    have h0 : zv done p.1 = 0 := zv_none (lkp_none.2 hd)
    simp [h, h0]
  · simp [hk, h]
end Go.Eng
namespace Go.Proofs.Ytlpheckjogphmaa
open Go Go.Eng Go.Proofs Go.NatM Go.RowKit

/-- a new grid that reads Z, and no error -/
def RetGZ (w : World) (r c : Nat) (Z : Int × Int → Int) (e : Ending) (w' : World) : Prop := ∃ (g m : Nat) (l' : GL), e = .returned (.tuple #[.pointer (some ⟨g, 0, none⟩), .int .i64 0]) ∧ Ext w w' ∧ w.heap.size ≤ g ∧ w.heap.size ≤ m ∧ Gr w'.heap g m r c l' ∧ NZ l' ∧ l'.length ≤ 4096 ∧ (∀ k, zv l' k = Z k) ∧ ∀ k, ¬ bigZ (Z k)
/-- what is refused -/
def Refu (Z : Int × Int → Int) : Prop := (∃ k, bigZ (Z k)) ∨ ∃ l' : GL, NZ l' ∧ (l'.map (·.1)).Nodup ∧ (∀ k, zv l' k = Z k) ∧ 4096 < l'.length
def RetLg (w : World) (er : Int) (e : Ending) (w' : World) : Prop := e = .returned (.tuple #[.pointer none, .int .i64 er]) ∧ Ext w w'
theorem long_t (w : World) (x : IV) (g : GI w.heap x) (hn : x.m.n ≤ 1099511627776) (h : bigZ (ival x)) : Cl Try.prog 46 #[ivA x] w (fun e w' => e = .returned (.bool true) ∧ Ext w w') := long_ok w x g hn true ⟨fun _ => (big_iff x).2 h, fun _ => rfl⟩
theorem long_f (w : World) (x : IV) (g : GI w.heap x) (hn : x.m.n ≤ 1099511627776) (h : ¬ bigZ (ival x)) : Cl Try.prog 46 #[ivA x] w (fun e w' => e = .returned (.bool false) ∧ Ext w w') := long_ok w x g hn false ⟨fun h => (by cases h), fun hb => absurd ((big_iff x).1 hb) h⟩
set_option maxHeartbeats 4000000 in
theorem gadd_ok (w : World) (g m g2 m2 r c : Nat) (l l2 : GL) (hG : Gr w.heap g m r c l) (hG2 : Gr w.heap g2 m2 r c l2) (hl : l.length ≤ 4096) (hl2 : l2.length ≤ 4096) (hz : NZ l) :
    Cl Try.prog 25 #[.pointer (some ⟨g, 0, none⟩), .pointer (some ⟨g2, 0, none⟩)] w
      (fun e w' => RetGZ w r c (fun k => zv l k + zv l2 k) e w' ∨ (Refu (fun k => zv l k + zv l2 k) ∧ RetLg w 5 e w')) := by
  have hn2 : (l2.map (·.1)).Nodup := by obtain ⟨es, k, _, h⟩ := hG2.mp; exact h.keys
  have hsm := gv_small hG.vals
  have hF := Gr.frD hG2 (Fr.mt (Fr.refS w fun _ => False) (dpGr g m r c l) (by unfold dpGr; exact hG))
  clear hG hG2
  refine enter Try.func25 rfl rfl rfl ?_
  repeat' (first | (refine TL.isOp ?_; first | (refine TL.isG ?_; first | refine TL.grun rfl rfl rfl ?_) | (refine TL.isCall ?_; refine TL.call rfl rfl ?_; first | (refine (gcopy_ok _ g m r c l (hF.grOf (by repeat (first | exact memH | apply memT))) (by omega)).mono ?_; rintro _ wy ⟨lo, ⟨go, mo, rfl, hE, hgo, hmo, hGo⟩, hlo, hzo⟩; have hz0 := hF.exs.size; have hmm := Nat.ne_of_lt (Nat.lt_of_lt_of_le (hF.mp_lt (m := m2) (l := l2) (by repeat (first | exact memH | apply memT))) hmo); replace hF := Fr.newParts hF hE hgo hmo hGo; replace hgo := Nat.le_trans hz0 hgo; replace hmo := Nat.le_trans hz0 hmo; have hgom := hGo.ne; clear hE hGo hz0; refine Back.mk ?_)) | (refine TL.isBin ?_; refine TL.cmpG rfl rfl rfl rfl (fun hc => ?_) (fun hc => ?_) <;> (try (first | (exfalso; omega) | exact absurd rfl hc))) | (apply TL.ev; (case hd => rfl); (case h => (first | exact ev_simple rfl | (apply Ev.isBin; first | exact ev_eqlP rfl rfl rfl) | (apply Ev.isLoad; first | exact ev_loadCb hF rfl (by repeat (first | exact memH | apply memT)) rfl | exact ev_loadV rfl (hF.grOf (g := g) (by repeat (first | exact memH | apply memT))).cells rfl) | exact ev_fieldAddr rfl | exact ev_nilCheck rfl))) | (refine TL.rangeFr (f := spot) (g := ivA) (l := l2) hF rfl (by repeat (first | exact memH | apply memT)) rfl ?_; have hr := hF.exs.size; clear hF; intro wr rr er hF; replace hr := Nat.le_trans hr (Nat.le_of_eq er.symm); clear er)) | (refine T.is ?_; first | refine T.seq ?_ | refine T.region ?_ | refine T.block ?_ | refine T.cond_f rfl ?_ | refine T.skip ?_ | refine T.regionQ mixed (by kernel_rfl) ?_) | (refine G.is ?_; first | refine G.next ?_ | refine G.blockN ?_) | refine TL.nil ?_ | (refine TL.nilFr hF ?_; clear hF; intro wq hF))
  have hmr := hF.it_mp (m := m2) (l2 := l2) (by repeat (first | exact memH | apply memT)) (by repeat (first | exact memH | apply memT))
  have hmor := hF.it_mp (m := mo) (l2 := lo) (by repeat (first | exact memH | apply memT)) (by repeat (first | exact memH | apply memT))
  have hgr := hF.it_cb (g := g2) (cs := grc r c m2) (by repeat (first | exact memH | apply memT)) (by repeat (first | exact memH | apply memT))
  have hgor := hF.it_cb (g := go) (cs := grc r c mo) (by repeat (first | exact memH | apply memT)) (by repeat (first | exact memH | apply memT))
  have hnz0 : NZ lo := hz.of_zk (hF.mp_nodup (by repeat (first | exact memH | apply memT))) hzo
  have hzv0 : ∀ k, zv lo k = zv l k + zv [] k := fun k => by rw [zv_zk, zv_zk (l := l), ← hzo k, show zv [] k = 0 from rfl, Int.add_zero]; rfl
  refine T.loop (α := GL × GL × GL) (fun x => [(6, .pointer (some ⟨go, 0, none⟩)), (44, .pointer (some ⟨rr, 0, none⟩))])
    (fun x w' => l2.Perm (x.1 ++ x.2.1) ∧ ((∀ k, zv x.2.2 k = zv l k + zv x.1 k) ∧ NZ x.2.2 ∧ x.2.2.length + x.2.1.length ≤ 8192 ∧ ∀ p ∈ x.1, ¬ bigZ (zv l p.1 + ival p.2)) ∧ Fr w w' [] [dpIt spot ivA rr m2 l2 x.1 x.2.1, dpMp spot ivA mo x.2.2, dpCb go 96 (grc r c mo), dpGv x.2.2, dpMp spot ivA m2 l2, dpCb g2 96 (grc r c m2), dpGv l2]) (fun x => x.2.1.length) ([], l2, lo) (by repeat (first | exact Sub.nil _ | refine Sub.cons rfl ?_ | refine Sub.cons' rfl (int_congr (by omega)) ?_)) ⟨List.Perm.refl _, ⟨hzv0, hnz0, by dsimp only; omega, fun p hp => (by cases hp)⟩, hF.weak (.refl _) (allH (by repeat (first | exact memH | apply memT)) (allH (by repeat (first | exact memH | apply memT)) (allH (by repeat (first | exact memH | apply memT)) (allH (by repeat (first | exact memH | apply memT)) (allH (by repeat (first | exact memH | apply memT)) (allH (by repeat (first | exact memH | apply memT)) (allH (by repeat (first | exact memH | apply memT)) allN)))))))⟩ ?_
  clear hF hzv0 hnz0 hlo hzo
  clear lo
  rintro ⟨done, todo, lo⟩ w1 ⟨hp, ⟨hzv, hnz, hlen, hnb⟩, hF⟩
  dsimp only at hp hzv hnz hlen hnb hF ⊢
  have hno := hF.mp_nodup (m := mo) (l := lo) (by repeat (first | exact memH | apply memT))
  repeat' (first | (refine TL.isOp ?_; first | (refine TL.isCall ?_; refine TL.call rfl rfl ?_; first | (refine (zadd_ok _ (at0 lo p.1) p.2 (gv_at (Fr.gv (l := lo) hF (by repeat (first | exact memH | apply memT))) p.1).1 (Fr.gv (l := l2) hF (by repeat (first | exact memH | apply memT)) p (pm_mem hp ht)).1.g (Nat.le_trans (gv_at (Fr.gv (l := lo) hF (by repeat (first | exact memH | apply memT))) p.1).2 (by decide)) (Nat.le_trans (Fr.gv (l := l2) hF (by repeat (first | exact memH | apply memT)) p (pm_mem hp ht)).2 (by decide))).mono ?_; rintro _ wy ⟨y, rfl, hy, hE, hyn⟩; have hyn2 := Nat.le_trans hyn (Nat.add_le_add_right (Nat.max_le.2 ⟨(gv_at (Fr.gv (l := lo) hF (by repeat (first | exact memH | apply memT))) p.1).2, (Fr.gv (l := l2) hF (by repeat (first | exact memH | apply memT)) p (pm_mem hp ht)).2⟩) 1); have hyv := hy.val; replace hF := Fr.addLI (hF.exts hE) (hyv.symm ▸ hy); clear hE hy hyn; refine Back.mk ?_) | (by_cases hbig : bigZ (ival y); refine (long_t _ y (Fr.li hF (x := y) (z := ival y) (by repeat (first | exact memH | apply memT))).g (Nat.le_trans hyn2 (by decide)) hbig).mono ?_; rintro _ wy ⟨rfl, hE⟩; replace hF := hF.exts hE; clear hE; refine Back.mk ?_; rotate_left 1; refine (long_f _ y (Fr.li hF (x := y) (z := ival y) (by repeat (first | exact memH | apply memT))).g (Nat.le_trans hyn2 (by decide)) hbig).mono ?_; rintro _ wy ⟨rfl, hE⟩; replace hF := hF.exts hE; clear hE; refine Back.mk ?_) | (refine (gput_ok _ go mo r c lo p.1 y (ival y) (hF.gr (by repeat (first | exact memH | apply memT)) (by repeat (first | exact memH | apply memT)) (by repeat (first | exact memH | apply memT))) (Fr.li hF (by repeat (first | exact memH | apply memT))) (few_of (Fr.li hF (x := y) (z := ival y) (by repeat (first | exact memH | apply memT))) hbig)).mono ?_; rintro _ wy ⟨rfl, hE, hGp⟩; replace hF := Fr.addGv (Fr.callMp (Fr.rot3 hF) hE (.inl hmo) (nfC nf_li (nfC (nf_it hmor.symm hmm) (nfC (nf_cb hgom) (nfC nf_gv (nfC (nf_mp hmm) (nfC (nf_cb (hF.cb_ne (g := g2) (m := mo) (l := lo) (by repeat (first | exact memH | apply memT)) (by repeat (first | exact memH | apply memT)))) (nfC nf_gv nfN))))))) hGp.mp) hGp.vals; clear hE hGp; refine Back.mk ?_)) | (refine TL.isBin ?_; refine TL.cmpG rfl rfl rfl rfl (fun hc => ?_) (fun hc => ?_) <;> (try (first | (exfalso; omega) | exact absurd rfl hc))) | (apply TL.ev; (case hd => rfl); (case h => (first | exact ev_simple rfl | (apply Ev.isLoad; first | exact ev_loadAFr hF rfl (by refine ⟨?_, ?_⟩; (focus (repeat (first | exact InV.head | apply InV.tail))); rfl) | exact ev_loadCb hF rfl (by repeat (first | exact memH | apply memT)) rfl) | exact ev_fieldAddr rfl | exact ev_nilCheck rfl | exact ev_entry hF (by repeat (first | exact memH | apply memT)) rfl | exact ev_mlookI hF (l := lo) (y := p.1) rfl rfl (by repeat (first | exact memH | apply memT)) | exact ev_mlen hF (l := lo) rfl (by repeat (first | exact memH | apply memT))))) | (refine TL.storeAFr hF rfl rfl rfl rfl (by refine ⟨?_, ?_⟩; (focus (repeat (first | apply SetV.head | apply SetV.tail))); rfl) rfl ?_; clear hF; intro ws hF) | (refine TL.nextFr hF (.inl hr) (nfC (nf_mp hmor) (nfC (nf_cb hgor) (nfC nf_gv (nfC (nf_mp hmr) (nfC (nf_cb hgr) (nfC nf_gv nfN)))))) rfl rfl (fun h0 wn hFn => ?_) (fun p todo' wn ht hFn => ?_) <;> clear hF <;> have hF := hFn <;> clear hFn) | (refine TL.allocFr hF (d := 7) rfl rfl ?_; clear hF; intro w7 b7 hF) | (refine TL.allocFr hF (d := 8) rfl rfl ?_; clear hF; intro w8 b8 hF) | (refine TL.allocFr hF (d := 9) rfl rfl ?_; clear hF; intro w9 b9 hF)) | (refine TF.is ?_; first | refine TF.nil ?_ | refine TF.e rfl ?_ | refine TF.alt ?_ ?_ | (refine TF.pick rfl ?_; first | (apply TFo.ev; (case hd => rfl); (case h => (intro wh hF; first | exact ev_simple rfl | (apply Ev.isLoad; first | exact ev_loadAFr hF rfl (by refine ⟨?_, ?_⟩; (focus (repeat (first | exact InV.head | apply InV.tail))); rfl) | exact ev_loadCb hF rfl (by repeat (first | exact memH | apply memT)) rfl) | exact ev_fieldAddr rfl | exact ev_nilCheck rfl))))) | (refine T.is ?_; first | refine T.seq ?_ | refine T.region ?_ | refine T.block ?_ | refine T.cond_t rfl ?_ | refine T.cond_f rfl ?_ | refine T.exit ?_ | refine T.ret ?_ | refine T.skip ?_ | (refine T.regionFr hF 9 9 (.s 0 (.s 1 (.s 2 (.s 3 (.s 4 (.s 6 (.alt (.e 5 (.alt (.e 7 (.e 8 (.e 9 .nil))) (.e 8 (.e 7 (.e 9 .nil))))) (.e 8 (.e 5 (.e 7 (.e 9 .nil))))))))))) mixed (by kernel_rfl) ?_; clear hF; intro wr hF)) | (refine G.is ?_; first | refine G.next ?_ | refine G.blockN ?_ | refine G.blockE ?_ | refine G.blockR ?_ | refine G.thenE ?_ | refine G.thenR ?_ | refine G.only ?_ | refine G.treeEnd rfl ?_ | refine G.tree rfl (by first | exact hF | exact hF.weak (List.sublist_append_right _ _) (by repeat (first | exact allR | apply allT)) | exact hF.weak (by repeat (first | exact List.Sublist.refl _ | apply List.Sublist.cons)) (by repeat (first | exact allR | apply allT)) | exact hF.weak (by repeat (first | exact List.Sublist.refl _ | apply List.Sublist.cons)) (by repeat (first | exact allN | refine allH (by repeat (first | exact memH | apply memT)) ?_))) ?_) | refine TL.nil ?_)
  · subst h0
    rw [List.append_nil] at hp
    refine G.ret2 rfl rfl rfl (.inr ⟨.inr ⟨lo, hnz, hno, fun k => ?_, by omega⟩, rfl, hF.ext⟩)
    show _ = zv l k + zv l2 k
    rw [hzv, zv_perm hn2 hp]
  · subst h0
    rw [List.append_nil] at hp
    refine G.ret2 rfl rfl rfl (.inl ⟨go, mo, lo, rfl, hF.ext, hgo, hmo, hF.gr (by repeat (first | exact memH | apply memT)) (by repeat (first | exact memH | apply memT)) (by repeat (first | exact memH | apply memT)), hnz, by omega, fun k => ?_, fun k => ?_⟩)
    · show _ = zv l k + zv l2 k
      rw [hzv, zv_perm hn2 hp]
    · show ¬ bigZ (zv l k + zv l2 k)
      cases hq : lkp l2 k with
      | none => rw [zv_none hq, Int.add_zero]; exact hsm k
      | some v => rw [zv_some hq]; exact hnb (k, v) (hp.mem_iff.1 (lkp_mem hq))
  all_goals
    have hd : zv done p.1 = 0 := zv_none (lkp_none.2 fun hm => by
      have h1 : ((done ++ [p] ++ todo').map (·.1)).Nodup := (((step_perm hp ht).map _).nodup_iff).1 hn2
      rw [List.map_append, List.map_append] at h1
      exact (List.nodup_append.1 (List.nodup_append.1 h1).1).2.2 _ hm p.1 (by simp) rfl)
    have e1 : ival y = zv l p.1 + ival p.2 := by rw [hyv]; show zv lo p.1 + _ = _; rw [hzv, hd, Int.add_zero]
    have e2 : zv l2 p.1 = ival p.2 := zv_some (lkp_of_mem (x := p.1) (v := p.2) hn2 (pm_mem hp ht))
    have hpl := putL_len lo p.1 y
    have hml := step_mu ht
    have hq1 : (putL lo p.1 y).length ≤ lo.length + 1 := by (repeat' split at hpl) <;> omega
    first
    | exact G.ret2 rfl rfl rfl (.inr ⟨.inl ⟨p.1, (by show bigZ (zv l p.1 + zv l2 p.1); rw [e2, ← e1]; exact hbig)⟩, rfl, hF.ext⟩)
    | exact G.again (done ++ [p], todo', putL lo p.1 y) (by repeat (first | exact Sub.nil _ | refine Sub.cons rfl ?_ | refine Sub.cons' rfl (int_congr (by omega)) ?_)) ⟨step_perm hp ht, ⟨add_step hn2 hno (step_perm hp ht) hzv hyv, hnz.put _ _, (by dsimp only; omega), fun q hq => (by
        rcases List.mem_append.1 hq with hq | hq
        · exact hnb q hq
        · simp only [List.mem_cons, List.not_mem_nil, or_false] at hq
          subst hq
          rw [← e1]; exact hbig)⟩, hF.weak (List.nil_sublist _) (allH (by repeat (first | exact memH | apply memT)) (allH (by repeat (first | exact memH | apply memT)) (allH (by repeat (first | exact memH | apply memT)) (allH (by repeat (first | exact memH | apply memT)) (allH (by repeat (first | exact memH | apply memT)) (allH (by repeat (first | exact memH | apply memT)) (allH (by repeat (first | exact memH | apply memT)) allN)))))))⟩ (step_mu ht)
end Go.Proofs.Ytlpheckjogphmaa

set_option linter.unusedSectionVars false
namespace Go.Eng
open Go Go.Proofs Go.NatM Go.RowKit Go.Proofs.Ytlpheckjogphmaa
/-- a list's places laid into row i -/
def apl (i : Int) (l nw : GL) : GL := nw.foldl (fun l p => putL l (i, p.1.2) p.2) l
theorem zv_apl {i j : Int} : ∀ {nw l : GL}, (l.map (·.1)).Nodup → (nw.map (·.1)).Nodup → (∀ p ∈ nw, p.1.1 = j) → ∀ x y, zv (apl i l nw) (x, y) = if x = i then (match lkp nw (j, y) with | some v => ival v | none => zv l (i, y)) else zv l (x, y)
  | [], l, _, _, _, x, y => by
    by_cases h : x = i
    · subst h; simp [apl, lkp]
    · simp [apl, h]
  | p :: nw, l, hn, hnn, hj, x, y => by
    simp only [List.map_cons, List.nodup_cons] at hnn
    show zv (apl i (putL l (i, p.1.2) p.2) nw) (x, y) = _
    rw [zv_apl (putL_nodup hn _ _) hnn.2 (fun q hq => hj q (List.mem_cons_of_mem _ hq)), zv_putL hn, zv_putL hn]
    have hp := hj p (List.mem_cons_self ..)
    obtain ⟨⟨p1, p2⟩, pv⟩ := p
    simp only at hp
    subst hp
    by_cases hx : x = i
    · subst hx
      simp only [if_true, lkp, Prod.mk.injEq, true_and]
      by_cases hy : p2 = y
      · subst hy
        rw [lkp_none.2 hnn.1]; simp
      · simp [hy]
    · have : ¬ i = x := fun e => hx e.symm
      simp [hx, this]
/-- two lists that tell alike -/
theorem lkp_map_eq {K V W A : Type} [DecidableEq K] {f : K × V → A} {g : K × W → A} : ∀ {l1 : List (K × V)} {l2 : List (K × W)}, l1.map (fun p => (p.1, f p)) = l2.map (fun p => (p.1, g p)) → ∀ k, (lkp l1 k).map (fun v => f (k, v)) = (lkp l2 k).map (fun v => g (k, v))
  | [], [], _, k => rfl
  | [], _ :: _, h, _ => by simp at h
  | _ :: _, [], h, _ => by simp at h
  | (a, u) :: l1, (b, v) :: l2, h, k => by
    simp only [List.map_cons, List.cons.injEq, Prod.mk.injEq] at h
    obtain ⟨⟨rfl, h1⟩, h2⟩ := h
    simp only [lkp]
    by_cases hk : a = k
    · subst hk; simp [h1]
    · simp only [hk, if_false]; exact lkp_map_eq h2 k
/-- k times row j added to row i -/
def rowZ (l : GL) (i j kv : Int) (k : Int × Int) : Int := if k.1 = i then zv l (i, k.2) + kv * zv l (j, k.2) else zv l k
/-- the new numbers of a row -/
def NewR (l : GL) (i kv : Int) (l' nw : GL) : Prop := nw.map (fun p => (p.1, ival p.2)) = l'.map (fun p => (p.1, kv * ival p.2 + zv l (i, p.1.2)))
theorem NewR.keys {l l' nw : GL} {i kv : Int} (h : NewR l i kv l' nw) : nw.map (·.1) = l'.map (·.1) := by
  have := congrArg (List.map Prod.fst) h
  simpa [List.map_map, Function.comp_def] using this
theorem NewR.snoc {l l' nw : GL} {i kv : Int} (h : NewR l i kv l' nw) {p : (Int × Int) × IV} {y : IV} (e : ival y = kv * ival p.2 + zv l (i, p.1.2)) : NewR l i kv (l' ++ [p]) (nw ++ [(p.1, y)]) := by
  unfold NewR at h ⊢
  rw [List.map_append, List.map_append, h]
  simp [e]
theorem NewR.zv {l l' nw : GL} {i j kv : Int} (hn : (l.map (·.1)).Nodup) (hp : l'.Perm (inRow j l)) (h : NewR l i kv l' nw) (k : Int × Int) : zv (apl i l nw) k = rowZ l i j kv k := by
  have hn' : (l'.map (·.1)).Nodup := ((hp.map _).nodup_iff).2 (hn.sublist (List.filter_sublist.map _))
  have hnw : (nw.map (·.1)).Nodup := by rw [h.keys]; exact hn'
  have hj : ∀ p ∈ nw, p.1.1 = j := fun p hm => by
    have : p.1 ∈ l'.map (·.1) := by rw [← h.keys]; exact List.mem_map.2 ⟨p, hm, rfl⟩
    obtain ⟨q, hq, e⟩ := List.mem_map.1 this
    rw [← e]; exact (mem_inRow.1 (hp.mem_iff.1 hq)).2
  obtain ⟨x, y⟩ := k
  rw [zv_apl hn hnw hj]
  unfold rowZ
  by_cases hx : x = i
  · subst hx
    simp only [if_true]
    have h1 := lkp_map_eq (K := Int × Int) (V := IV) (W := IV) (f := fun p => ival p.2) (g := fun p => kv * ival p.2 + Go.Eng.zv l (x, p.1.2)) h (j, y)
    rw [lkp_perm hn' hp, lkp_inRow] at h1
    simp only [if_true] at h1
    cases hq : lkp l (j, y) with
    | none =>
      rw [hq] at h1
      cases hr : lkp nw (j, y) with
      | none => rw [zv_none hq]; simp
      | some v => rw [hr] at h1; cases h1
    | some u =>
      rw [hq] at h1
      cases hr : lkp nw (j, y) with
      | none => rw [hr] at h1; cases h1
      | some v =>
        rw [hr] at h1
        simp only [Option.map_some, Option.some.injEq] at h1
        rw [zv_some hq]
        simp only [h1]; omega
  · simp [hx]
section
variable {P : Program} {N : Fm} {Q : Exit → Act → World → Prop} {σ : Go.Eng.Store} {S : Nat → Prop} {w0 w : World} {L : List VB} {D : List DP} {ops : Array Oper} {t : TypeId} {pos : String} {af : Array Edge} {rest : List Oper}
end
theorem pb_sm {S : Nat → Prop} {w0 w : World} {L : List VB} {D : List DP} {b c n : Nat} {l : GL} {zs : List Value} (hF : Fr w0 w L D S) (h : InV L b 46 (l.flatMap plc ++ zs)) (hn : l.length = n) (hc : n ≤ c) : Sm 4 plc w.heap w.heap.size (some ⟨b, 0, none⟩) n c l := by
  have hV := hF.var h
  exact vr_sm (by decide) (fun _ _ => rfl) hV hn hc hV.lt
section
variable {S : Nat → Prop} {w0 w : World} {L : List VB} {D : List DP}
theorem PBok.len {l l' : GL} {pb : PB} (h : PBok l pb) (e : l'.length = l.length) : PBok l' pb := by
  cases pb with
  | none => have h : l = [] := h; subst h; exact List.eq_nil_of_length_eq_zero e
  | some x => unfold PBok at h ⊢; rw [e]; exact h
end
end Go.Eng

set_option linter.unusedSectionVars false
namespace Go.Proofs.Ytlpheckjogphmaa
open Go Go.Eng Go.Proofs Go.NatM Go.RowKit

end Go.Proofs.Ytlpheckjogphmaa

set_option linter.unusedSectionVars false
namespace Go.Eng
open Go Go.Proofs Go.NatM Go.RowKit
/-- blocks and draws more -/
structure Gx (w w' : World) : Prop where
  ext : Ext w w'
  drawn : w.drawn ≤ w'.drawn
theorem Gx.refl (w : World) : Gx w w := ⟨Ext.refl w, Nat.le_refl _⟩
theorem Gx.trans {a b c : World} (h : Gx a b) (k : Gx b c) : Gx a c := ⟨h.ext.trans k.ext, Nat.le_trans h.drawn k.drawn⟩
theorem Gx.alloc (w : World) (o : Obj) : Gx w (w.alloc o) := ⟨ext_alloc w o, Nat.le_refl _⟩
theorem Gx.drewN (w : World) (n : Nat) : Gx w (w.drewN n) := ⟨ext_drewN w n, Nat.le_add_right _ _⟩
theorem Gx.grow {w w' : World} (h : Gx w w') : ∃ q os', w' = Go.Sort.grow (w.drewN q) os' := by
  refine ⟨w'.drawn - w.drawn, w'.heap.extract w.heap.size w'.heap.size, ?_⟩
  obtain ⟨⟨h1, h2, h3, h4, h5⟩, h6⟩ := h
  obtain ⟨hp, tp, dr, os, out⟩ := w'
  simp only at h1 h2 h3 h4 h5 h6
  unfold Go.Sort.grow World.drewN
  simp only [World.mk.injEq]
  refine ⟨?_, h2, by omega, h1, h3⟩
  apply Array.ext_getElem?
  intro k
  rw [Array.getElem?_append]
  by_cases hk : k < w.heap.size
  · rw [if_pos hk, h5 k hk]
  · rw [if_neg hk, Array.getElem?_extract]
    split
    · congr 1; omega
    · rename_i hn
      rw [Array.getElem?_eq_none]; omega
section
variable {P : Program} {N : Fm} {Q : Exit → Act → World → Prop} {σ : Store} {w : World} {ops : Array Oper} {d : Nat} {t : TypeId} {pos : String} {af : Array Edge} {rest : List Oper}
theorem TL.boxAX {x : Operand} {ty : TypeId} {cs : List Value} (hx : look σ x = some (.agg cs.toArray)) (hd : Nat.blt d N.n = true)
    (K : ∀ w' b, Vr w'.heap b ty cs → Gx w w' → TL P N .seq ops Q rest ((d, .pointer (some ⟨b, 0, none⟩)) :: σ) w') :
    TL P N .seq ops Q (⟨some d, .box ty x, t, pos, af, none⟩ :: rest) σ w := by
  refine TL.op (w' := w.alloc (.cells cs.toArray ty)) (fun ρ hρ => ?_) hd (K _ w.heap.size (by unfold Vr; rw [heap_alloc]) (Gx.alloc ..))
  simp [execOp, hρ x _ hx, Instr.box, newVar, newRow, Value.cells]
theorem TL.build2X {x y : Operand} {ty e : TypeId} [hT : USlice P ty e] {b1 : Nat} [hS : USize P e (.int .i64 0) 1 b1] {u v : Int} (hx : look σ x = some (.int .i64 u)) (hy : look σ y = some (.int .i64 v)) (hd : Nat.blt d N.n = true)
    (K : ∀ w' b, Sl i64v w'.heap w'.heap.size (some ⟨b, 0, none⟩) 2 2 [u, v] → Gx w w' → TL P N .seq ops Q rest ((d, .slice (some ⟨b, 0, none⟩) 2 2) :: σ) w') :
    TL P N .seq ops Q (⟨some d, .buildSlice ty 2 #[(0, x), (1, y)], t, pos, af, none⟩ :: rest) σ w := by
  have hB : Bk i64v (w.alloc (.cells #[i64v u, i64v v] e)).heap w.heap.size e [u, v] := by unfold Bk; rw [heap_alloc]; rfl
  refine TL.op (w' := w.alloc (.cells #[i64v u, i64v v] e)) (fun ρ hρ => ?_) hd (K _ _ ((hB.slN (n := 2) (c := 2) rfl (Nat.le_refl _) hB.lt).size) (Gx.alloc ..))
  have := run_build (w := w) hT hS (z := .int .i64 0) rfl [i64v u, i64v v] #[(0, i64v u), (1, i64v v)] (by simp [Instr.fill, i64v, Value.cells]; rfl) (by simp)
  simp only [List.length_cons, List.length_nil, Nat.zero_add, Nat.reduceAdd] at this
  simp only [i64v] at this
  simp [execOp, hρ x _ hx, hρ y _ hy, this, i64v]
end
end Go.Eng
namespace Go.Proofs.Ytlpheckjogphmaa
open Go Go.Eng Go.Proofs Go.NatM Go.RowKit

def cmpI (a b : Int) : Int := if a < b then -1 else if b < a then 1 else 0
theorem isNaN_ok (w : World) (a : Int) : Cl Try.prog 83 #[.int .i64 a] w (fun e w' => e = .returned (.bool false) ∧ w' = w) := by
  refine enter Try.func83 rfl rfl rfl ?_
  repeat' (first | refine TL.ev (ev_simple rfl) rfl ?_ | (refine TL.cmpG rfl rfl rfl rfl (fun hc => ?_) (fun hc => ?_) <;> try first | (exfalso; omega) | exact absurd rfl hc) | refine T.seq ?_ | refine T.region ?_ | refine TL.nil ?_ | refine T.ret ?_ | refine G.next ?_)
  all_goals exact G.ret1 rfl rfl ⟨rfl, rfl⟩
theorem compare_ok (w : World) (a b : Int) : Cl Try.prog 56 #[.int .i64 a, .int .i64 b] w (fun e w' => e = .returned (.int .i64 (cmpI a b)) ∧ w' = w) := by
  refine enter Try.func56 rfl rfl rfl ?_
  repeat' (first | refine TL.ev (ev_simple rfl) rfl ?_ | (refine TL.call rfl rfl ?_; first | (refine (isNaN_ok _ _).mono ?_; rintro _ _ ⟨rfl, rfl⟩; refine Back.mk ?_)) | (refine TL.cmpG rfl rfl rfl rfl (fun hc => ?_) (fun hc => ?_) <;> try (exfalso; omega)) | refine T.seq ?_ | refine T.region ?_ | refine TL.nil ?_ | refine T.cond_t rfl ?_ | refine T.cond_f rfl ?_ | refine T.ret ?_ | refine T.skip ?_ | refine G.next ?_ | refine G.thenR ?_)
  all_goals
    refine G.ret1 rfl rfl ⟨?_, rfl⟩
    unfold cmpI
    first
    | rw [if_pos (by omega)]
    | rw [if_neg (by omega), if_pos (by omega)]
    | rw [if_neg (by omega), if_neg (by omega)]
def orI (u v : Int) : Int := if u ≠ 0 then u else v
theorem or_ok (w : World) (A : Option Addr) (u v : Int) (hs : Sl i64v w.heap w.heap.size A 2 2 [u, v]) : Cl Try.prog 55 #[.slice A 2 2] w (fun e w' => e = .returned (.int .i64 (orI u v)) ∧ w' = w) := by
  refine enter Try.func55 rfl rfl rfl ?_
  repeat' (first | refine TL.ev (ev_simple rfl) rfl ?_ | refine TL.ev (ev_len rfl) rfl ?_ | refine T.seq ?_ | refine T.region ?_ | refine TL.nil ?_ | refine T.block ?_ | refine G.next ?_)
  refine T.loop (α := Nat) (fun k => [(0, .slice A 2 2), (3, .int .i64 0), (6, .slice A 2 2), (7, .int .i64 2), (8, .int .i64 (k : Int))]) (fun k w' => w' = w ∧ k ≤ 2 ∧ (1 ≤ k → u = 0) ∧ (2 ≤ k → v = 0)) (fun k => 2 - k) 0 (by repeat (first | exact Sub.nil _ | refine Sub.cons rfl ?_ | refine Sub.cons' rfl (int_congr (by omega)) ?_)) ⟨rfl, by omega, fun h => by omega, fun h => by omega⟩ ?_
  rintro k w1 ⟨rfl, hk, h1, h2⟩
  obtain rfl | rfl | rfl : k = 0 ∨ k = 1 ∨ k = 2 := by omega
  · repeat' (first | refine TL.ev (ev_simple rfl) rfl ?_ | (refine TL.cmpG rfl rfl rfl rfl (fun hc => ?_) (fun hc => ?_) <;> try (exfalso; omega)) | refine TL.ev (ev_arN rfl rfl rfl (by omega)) rfl ?_ | refine TL.ev (ev_indexN rfl rfl (by omega) (by first | exact Or.inr rfl | exact Sl.some (by assumption))) rfl ?_ | refine TL.ev (ev_loadI rfl (by assumption) (by omega)) rfl ?_ | refine T.seq ?_ | refine T.region ?_ | refine TL.nil ?_ | refine T.block ?_ | refine T.cond_t rfl ?_ | refine T.cond_f rfl ?_ | refine T.ret ?_ | refine T.skip ?_ | refine G.next ?_ | refine G.blockN ?_ | refine G.blockR ?_ | refine G.thenR ?_)
    · exact G.ret1 rfl rfl ⟨by unfold orI; rw [if_pos (show u ≠ 0 from hc)]; rfl, rfl⟩
    · have e : u = 0 := Classical.not_not.1 (show ¬ u ≠ 0 from hc)
      exact G.again 1 (by repeat (first | exact Sub.nil _ | refine Sub.cons rfl ?_ | refine Sub.cons' rfl (int_congr (by omega)) ?_)) ⟨rfl, by omega, fun _ => e, fun h => by omega⟩ (by omega)
  · repeat' (first | refine TL.ev (ev_simple rfl) rfl ?_ | (refine TL.cmpG rfl rfl rfl rfl (fun hc => ?_) (fun hc => ?_) <;> try (exfalso; omega)) | refine TL.ev (ev_arN rfl rfl rfl (by omega)) rfl ?_ | refine TL.ev (ev_indexN rfl rfl (by omega) (by first | exact Or.inr rfl | exact Sl.some (by assumption))) rfl ?_ | refine TL.ev (ev_loadI rfl (by assumption) (by omega)) rfl ?_ | refine T.seq ?_ | refine T.region ?_ | refine TL.nil ?_ | refine T.block ?_ | refine T.cond_t rfl ?_ | refine T.cond_f rfl ?_ | refine T.ret ?_ | refine T.skip ?_ | refine G.next ?_ | refine G.blockN ?_ | refine G.blockR ?_ | refine G.thenR ?_)
    · exact G.ret1 rfl rfl ⟨by unfold orI; rw [if_neg (fun h => h (h1 (Nat.le_refl _)))]; rfl, rfl⟩
    · have e : v = 0 := Classical.not_not.1 (show ¬ v ≠ 0 from hc)
      exact G.again 2 (by repeat (first | exact Sub.nil _ | refine Sub.cons rfl ?_ | refine Sub.cons' rfl (int_congr (by omega)) ?_)) ⟨rfl, by omega, fun _ => h1 (Nat.le_refl _), fun _ => e⟩ (by omega)
  · repeat' (first | refine TL.ev (ev_simple rfl) rfl ?_ | (refine TL.cmpG rfl rfl rfl rfl (fun hc => ?_) (fun hc => ?_) <;> try (exfalso; omega)) | refine T.seq ?_ | refine T.region ?_ | refine TL.nil ?_ | refine T.cond_f rfl ?_ | refine T.exit ?_ | refine T.ret ?_ | refine G.next ?_ | refine G.blockE ?_ | refine G.thenE ?_)
    exact G.ret1 rfl rfl ⟨by unfold orI; rw [if_neg (fun h => h (h1 (by omega))), h2 (Nat.le_refl _)], rfl⟩
/-- the order of places -/
def cmpPl (x y : (Int × Int) × IV) : Int := orI (cmpI x.1.1 y.1.1) (cmpI x.1.2 y.1.2)
theorem plcmp_ok (W : World) (x y : (Int × Int) × IV) : Cl Try.prog 54 #[.agg (plc x).toArray, .agg (plc y).toArray] W (fun e w' => e = .returned (.int .i64 (cmpPl x y)) ∧ Gx W w') := by
  obtain ⟨⟨x1, x2⟩, ⟨xn, ⟨xA, xk, xc, xl⟩⟩⟩ := x
  obtain ⟨⟨y1, y2⟩, ⟨yn, ⟨yA, yk, yc, yl⟩⟩⟩ := y
  refine enter Try.func54 rfl rfl rfl ?_
  have hG := Gx.refl W
  refine T.seq ?_
  refine T.region ?_
  refine TL.boxAX (d := 2) (cs := [.int .i64 x1, .int .i64 x2, .bool xn, .slice xA xk xc]) rfl rfl ?_
  intro w2 b2 hV2 hE
  replace hG := hG.trans hE
  clear hE
  refine TL.boxAX (d := 3) (cs := [.int .i64 y1, .int .i64 y2, .bool yn, .slice yA yk yc]) rfl rfl ?_
  intro w3 b3 hV3 hE
  replace hV2 := hV2.ext hE.ext
  replace hG := hG.trans hE
  clear hE
  refine TL.ev (ev_assign rfl) rfl ?_
  refine TL.nil ?_
  refine G.next ?_
  refine T.seq ?_
  refine T.regionF (fun w' => Gx W w' ∧ Vr w'.heap b2 46 [.int .i64 x1, .int .i64 x2, .bool xn, .slice xA xk xc] ∧ Vr w'.heap b3 46 [.int .i64 y1, .int .i64 y2, .bool yn, .slice yA yk yc]) 13 (.s 0 (.s 1 (.s 2 (.s 3 (.s 5 (.s 6 (.s 7 (.s 8 (.e 4 (.e 9 (.e 10 (.e 11 (.s 12 .nil))))))))))))) mixed (by kernel_rfl) ⟨hG.trans (Gx.drewN ..), hV2, hV3⟩ ?_
  replace hG := hG.trans (Gx.drewN w3 1)
  replace hV2 : Vr (w3.drewN 1).heap b2 46 [.int .i64 x1, .int .i64 x2, .bool xn, .slice xA xk xc] := hV2
  replace hV3 : Vr (w3.drewN 1).heap b3 46 [.int .i64 y1, .int .i64 y2, .bool yn, .slice yA yk yc] := hV3
  refine TF.s rfl (fun w' hw => ev_fieldAddr rfl) rfl ?_
  refine TF.s rfl (fun w' hw => ev_loadV rfl hw.2.1 rfl) rfl ?_
  refine TF.s rfl (fun w' hw => ev_fieldAddr rfl) rfl ?_
  refine TF.s rfl (fun w' hw => ev_loadV rfl hw.2.2 rfl) rfl ?_
  refine TF.s rfl (fun w' hw => ev_fieldAddr rfl) rfl ?_
  refine TF.s rfl (fun w' hw => ev_loadV rfl hw.2.1 rfl) rfl ?_
  refine TF.s rfl (fun w' hw => ev_fieldAddr rfl) rfl ?_
  refine TF.s rfl (fun w' hw => ev_loadV rfl hw.2.2 rfl) rfl ?_
  refine TF.e rfl ?_
  refine TL.call rfl rfl ?_
  refine (compare_ok _ _ _).mono ?_
  rintro _ _ ⟨rfl, rfl⟩
  refine Back.mk ?_
  refine TL.nil ?_
  refine G.only ?_
  refine G.tree rfl ⟨hG, hV2, hV3⟩ ?_
  refine TF.e rfl ?_
  refine TL.call rfl rfl ?_
  refine (compare_ok _ _ _).mono ?_
  rintro _ _ ⟨rfl, rfl⟩
  refine Back.mk ?_
  refine TL.nil ?_
  refine G.only ?_
  refine G.tree rfl ⟨hG, hV2, hV3⟩ ?_
  refine TF.e rfl ?_
  refine TL.build2X rfl rfl rfl ?_
  intro w4 b4 hs hE
  replace hG := hG.trans hE
  replace hV2 := hV2.ext hE.ext
  replace hV3 := hV3.ext hE.ext
  refine TL.nil ?_
  refine G.only ?_
  refine G.tree rfl ⟨hG, hV2, hV3⟩ ?_
  refine TF.e rfl ?_
  refine TL.call rfl rfl ?_
  refine (or_ok _ _ _ _ hs).mono ?_
  rintro _ _ ⟨rfl, rfl⟩
  refine Back.mk ?_
  refine TL.nil ?_
  refine G.only ?_
  refine G.tree rfl ⟨hG, hV2, hV3⟩ ?_
  refine TF.s rfl (fun w' hw => ev_assign rfl) rfl ?_
  refine TF.nil ?_
  repeat' (first | refine T.ret ?_ | refine G.next ?_)
  exact G.ret1 rfl rfl ⟨rfl, hG⟩
end Go.Proofs.Ytlpheckjogphmaa

set_option linter.unusedSectionVars false
namespace Go.Eng
open Go Go.Proofs Go.NatM Go.RowKit Go.Sort Go.Proofs.Ytlpheckjogphmaa
theorem flat_get (l : GL) (t : Nat) (ht : t < l.length * 4) : (flatK plc 4 l.toArray)[t]! = (l.flatMap plc)[t]?.getD default := by
  have h1 : t / 4 < l.length := Nat.div_lt_of_lt_mul (by omega)
  have h2 := flatMap_get (f := plc) (k := 4) (l := l) (fun _ _ => rfl) (t / 4) (t % 4) l[t / 4] (List.getElem?_eq_getElem h1) (Nat.mod_lt _ (by decide))
  rw [Nat.div_add_mod'] at h2
  rw [get_flatK _ _ _ _ (by simpa using ht), h2]
  have h3 : l.toArray[t / 4]! = l[t / 4] := by simp [h1]
  rw [h3]
  have h4 : t % 4 < (plc l[t / 4]).length := Nat.mod_lt _ (by decide)
  exact List.getElem!_eq_getElem?_getD
theorem flat_get? (l : GL) (zs : List Value) (t : Nat) (ht : t < l.length * 4) : (l.flatMap plc ++ zs)[t]? = some (flatK plc 4 l.toArray)[t]! := by
  have hl : (l.flatMap plc).length = l.length * 4 := flatMap_len fun _ _ => rfl
  rw [flat_get l t ht, List.getElem?_append_left (by omega), List.getElem?_eq_getElem (by omega)]; rfl
theorem holds_of {w : World} {b : Nat} {t : TypeId} {l : GL} {zs : List Value} (h : Vr w.heap b t (l.flatMap plc ++ zs)) : HoldsK plc 4 w b 0 l.toArray := by
  intro j hj
  rw [size_flatK] at hj
  have hj' : j < l.length * 4 := by simpa using hj
  refine ⟨?_, ?_⟩
  · rw [cell_of_hcell, Nat.zero_add, h.cell]; exact flat_get? l zs j hj'
  · unfold World.frozen?
    unfold Vr at h
    rw [h]; simp
theorem put_vr {w : World} {b n : Nat} {t : TypeId} {l : GL} {zs : List Value} {d : Array ((Int × Int) × IV)} (os : Array Obj) (h : Vr w.heap b t (l.flatMap plc ++ zs)) (hd : d.size = l.length) : Vr (sortWorldK plc 4 w b 0 n d os).heap b t (d.toList.flatMap plc ++ zs) ∧ Exs (fun k => k = b) w (sortWorldK plc 4 w b 0 n d os) := by
  have hlt := h.lt
  have hl : (l.flatMap plc).length = l.length * 4 := flatMap_len fun _ _ => rfl
  have hl2 : (d.toList.flatMap plc).length = l.length * 4 := by rw [flatMap_len (f := plc) (k := 4) fun _ _ => rfl]; simp [hd]
  have hheap : ∀ k, k < w.heap.size → (sortWorldK plc 4 w b 0 n d os).heap[k]? = (w.heap.modify b (onCells (putCells id 0 (flatK plc 4 d))))[k]? := fun k hk => by
    unfold sortWorldK grow putRowK putRow mapBlock Go.Sort.ahead
    simp only
    rw [Array.getElem?_append_left (by simpa using hk)]
  refine ⟨?_, ⟨rfl, rfl, rfl, ?_, fun k hk hne => ?_⟩⟩
  · unfold Vr at h ⊢
    rw [hheap b hlt, Array.getElem?_modify, if_pos rfl, h]
    simp only [Option.map_some, onCells, Option.some.injEq, Obj.cells.injEq, and_true]
    apply Array.ext_getElem?
    intro k
    simp only [putCells, Array.getElem?_mapIdx, List.getElem?_toArray, size_flatK, Nat.zero_add, Nat.sub_zero, Nat.zero_le, true_and, id]
    by_cases hk : k < l.length * 4
    · have e1 := flat_get? d.toList zs k (by simp [hd]; omega)
      simp only [Array.toArray_toList] at e1
      rw [e1, List.getElem?_append_left (by omega), List.getElem?_eq_getElem (by omega)]
      simp [hd, hk]
    · rw [List.getElem?_append_right (by omega), List.getElem?_append_right (by omega), hl, hl2]
      cases zs[k - l.length * 4]? with
      | none => rfl
      | some v => simp [hd, hk]
  · unfold sortWorldK grow putRowK putRow mapBlock Go.Sort.ahead
    simp
  · rw [hheap k hk, Array.getElem?_modify, if_neg fun e => hne e.symm]
end Go.Eng

set_option linter.unusedSectionVars false
namespace Go.Eng
open Go
theorem Fr.permL {S : Nat → Prop} {w0 w : World} {L L' : List VB} {D : List DP} (h : Fr w0 w L D S) (hp : L.Perm L') : Fr w0 w L' D S :=
  ⟨h.exs, fun v hv => h.vars v (hp.mem_iff.2 hv), (hp.pairwise_iff (fun h => Ne.symm h)).1 h.dist, h.data, fun v hv => h.apart v (hp.mem_iff.2 hv)⟩
theorem Fr.rotL {S : Nat → Prop} {w0 w : World} {a b c : VB} {L : List VB} {D : List DP} (h : Fr w0 w (a :: b :: c :: L) D S) : Fr w0 w (c :: a :: b :: L) D S :=
  h.permL (by
    have : (a :: b :: c :: L).Perm (a :: c :: b :: L) := (List.Perm.swap c b L).cons a
    exact this.trans (List.Perm.swap c a (b :: L)))
/-- a block that a callee has written anew -/
theorem Fr.wroteV {S : Nat → Prop} {w0 w w' : World} {b : Nat} {t : TypeId} {cs cs' : List Value} {L : List VB} {D : List DP} (hF : Fr w0 w (⟨b, t, cs⟩ :: L) D S) (hc : cs.all noU64 = true) (hE : Exs (fun k => k = b) w w') (hV : Vr w'.heap b t cs') : Fr w0 w' (⟨b, t, cs'⟩ :: L) D S := by
  have hd := List.pairwise_cons.1 hF.dist
  have hlo := (hF.vars _ (List.mem_cons_self ..)).1
  have hVo := (hF.vars _ (List.mem_cons_self ..)).2
  dsimp only at hlo hVo
  refine ⟨hF.exs.then hE fun i hi e => ?_, fun v hv => ?_, List.pairwise_cons.2 ⟨fun v hv => hd.1 v hv, hd.2⟩, fun d hdm => ?_, fun v hv d hdm => ?_⟩
  · subst e
    exact hlo.elim (fun h => absurd hi (Nat.not_lt_of_le h)) id
  · rcases List.mem_cons.1 hv with rfl | hv
    · exact ⟨hlo, hV⟩
    · have h1 := hF.vars v (List.mem_cons_of_mem _ hv)
      refine ⟨h1.1, ?_⟩
      have h2 := h1.2
      have h3 := h2.lt
      unfold Vr at h2 ⊢
      rw [hE.block _ h3 fun e => hd.1 v hv e.symm]; exact h2
  · have hap := hF.apart _ (List.mem_cons_self ..) d hdm
    refine d.st _ _ ⟨hE.size, fun k cs2 t2 y hk hor => hE.block k (Array.getElem?_eq_some_iff.1 hk).1 fun e => ?_, fun k o hk _ hf => hE.block k (Array.getElem?_eq_some_iff.1 hk).1 fun e => hap (e ▸ hf)⟩ (hF.data d hdm)
    subst e
    rcases hor with hf | hn
    · exact hap hf
    · unfold Vr at hVo
      rw [hVo] at hk
      cases hk
      simp only [List.toList_toArray] at hn
      rw [hc] at hn
      cases hn
  · rcases List.mem_cons.1 hv with rfl | hv
    · exact hF.apart _ (List.mem_cons_self ..) d hdm
    · exact hF.apart v (List.mem_cons_of_mem _ hv) d hdm
end Go.Eng
namespace Go.Proofs.Ytlpheckjogphmaa
open Go Go.Eng Go.Proofs Go.NatM Go.RowKit

/-- one place ahead of another -/
def plt (x y : Int × Int) : Prop := x.1 < y.1 ∨ (x.1 = y.1 ∧ x.2 < y.2)
def SortedPl (l : GL) : Prop := l.Pairwise fun x y => plt x.1 y.1
/-- what the sort does -/
def SortOk : Prop := ∀ (w : World) (b c : Nat) (l : GL) (zs : List Value), Vr w.heap b 46 (l.flatMap plc ++ zs) → l.length ≤ 1048576 → (l.map (·.1)).Nodup →
  Cl Try.prog 53 #[.slice (some ⟨b, 0, none⟩) l.length c, .func (.func 54) #[] #[]] w (fun e w' => e = .returned (.tuple #[]) ∧ ∃ l' : GL, l'.Perm l ∧ SortedPl l' ∧ Vr w'.heap b 46 (l'.flatMap plc ++ zs) ∧ Exs (fun k => k = b) w w')
/-- the places in order, in a block of their own -/
def RetPc (w : World) (l : GL) (e : Ending) (w' : World) : Prop := ∃ (ls : GL) (b c : Nat) (zs : List Value), e = .returned (.slice (some ⟨b, 0, none⟩) ls.length c) ∧ (ls.length ≤ c ∧ zs.length = (c - ls.length) * 4 ∧ zs.all noU64 = true) ∧ Fr w w' [⟨b, 46, ls.flatMap plc ++ zs⟩] [dpGv ls] ∧ SortedPl ls ∧ (ls.map (·.1)).Nodup ∧ ls.length = l.length ∧ ∀ k, zk ls k = zk l k
set_option maxHeartbeats 4000000 in
theorem gplaces_ok (hSort : SortOk) (w : World) (g m r c : Nat) (l : GL) (hG : Gr w.heap g m r c l) (hl : l.length ≤ 1048576) : Cl Try.prog 13 #[.pointer (some ⟨g, 0, none⟩)] w (RetPc w l) := by
  have hn : (l.map (·.1)).Nodup := by obtain ⟨es, k, _, h⟩ := hG.mp; exact h.keys
  have hF := Gr.frD hG (Fr.refS w fun _ => False)
  have hgm := hG.ne
  clear hG
  refine enter Try.func13 rfl rfl rfl ?_
  repeat' (first | (refine TL.isOp ?_; first | (apply TL.ev; (case hd => rfl); (case h => (first | exact ev_simple rfl | (apply Ev.isBin; first | exact ev_eqlP rfl rfl rfl) | (apply Ev.isLoad; first | exact ev_loadCb hF rfl (by repeat (first | exact memH | apply memT)) rfl) | exact ev_fieldAddr rfl | exact ev_nilCheck rfl | exact ev_mlen hF rfl (by repeat (first | exact memH | apply memT))))) | (refine TL.makeFr hF (f := plc) ((0, 0), iv0) rfl rfl rfl (Nat.zero_le _) (by omega) rfl rfl rfl ?_; clear hF; intro w13 b13 hF) | (refine TL.rangeFr (f := spot) (g := ivA) (l := l) hF rfl (by repeat (first | exact memH | apply memT)) rfl ?_; have hr := hF.exs.size; clear hF; intro wr rr er hF; replace hr := Nat.le_trans hr (Nat.le_of_eq er.symm); clear er)) | (refine T.is ?_; first | refine T.seq ?_ | refine T.region ?_ | refine T.block ?_ | refine T.cond_f rfl ?_ | refine T.skip ?_) | (refine G.is ?_; first | refine G.next ?_) | refine TL.nil ?_)
  have hmr := hF.it_mp (m := m) (l2 := l) (by repeat (first | exact memH | apply memT)) (by repeat (first | exact memH | apply memT))
  have hgr := hF.it_cb (g := g) (cs := grc r c m) (by repeat (first | exact memH | apply memT)) (by repeat (first | exact memH | apply memT))
  have hzl : ((List.replicate l.length (((0, 0), iv0) : (Int × Int) × IV)).flatMap plc).length = (l.length - ([] : GL).length) * 4 := by rw [flatMap_len (f := plc) (k := 4) fun _ _ => rfl]; simp
  have hzn : ((List.replicate l.length (((0, 0), iv0) : (Int × Int) × IV)).flatMap plc).all noU64 = true := by have := plc_no (List.replicate l.length (((0, 0), iv0) : (Int × Int) × IV)) (zs := []) rfl; rwa [List.append_nil] at this
  refine T.loop (α := GL × GL × GL × List Value) (fun x => [(3, .slice (some ⟨b13, 0, none⟩) x.2.2.1.length l.length), (18, .pointer (some ⟨rr, 0, none⟩))])
    (fun x w' => l.Perm (x.1 ++ x.2.1) ∧ (Lk idk x.1 x.2.2.1 ∧ x.2.2.2.length = (l.length - x.2.2.1.length) * 4 ∧ x.2.2.2.all noU64 = true) ∧ Fr w w' [⟨b13, 46, x.2.2.1.flatMap plc ++ x.2.2.2⟩] [dpIt spot ivA rr m l x.1 x.2.1, dpMp spot ivA m l, dpCb g 96 (grc r c m), dpGv l, dpGv x.2.2.1]) (fun x => x.2.1.length) ([], l, [], (List.replicate l.length (((0, 0), iv0) : (Int × Int) × IV)).flatMap plc) (by repeat (first | exact Sub.nil _ | refine Sub.cons rfl ?_ | refine Sub.cons' rfl (int_congr (by omega)) ?_)) ⟨List.Perm.refl _, ⟨rfl, hzl, hzn⟩, by
      have h0 := Fr.addGv hF (l := []) fun p hp => (by cases hp)
      exact h0.weak (List.Sublist.refl _) (allH (by repeat (first | exact memH | apply memT)) (allH (by repeat (first | exact memH | apply memT)) (allH (by repeat (first | exact memH | apply memT)) (allH (by repeat (first | exact memH | apply memT)) (allH (by repeat (first | exact memH | apply memT)) allN)))))⟩ ?_
  clear hF hzl hzn
  rintro ⟨done, todo, ls, zs⟩ w1 ⟨hp, ⟨hlk, hzl, hzn⟩, hF⟩
  dsimp only at hp hlk hzl hzn hF ⊢
  have hpl := hp.length_eq
  rw [List.length_append] at hpl
  have hll := hlk.len
  have hnd : (ls.map (·.1)).Nodup := by
    rw [hlk.keys]
    have h1 : ((done ++ todo).map (·.1)).Nodup := ((hp.map _).nodup_iff).1 hn
    rw [List.map_append] at h1
    exact (List.nodup_append.1 h1).1
  repeat' (first | (refine TL.isOp ?_; first | (refine TL.isCall ?_; refine TL.call rfl rfl ?_; first | (refine (zleast_ok _ p.2 (Fr.gv (l := l) hF (by repeat (first | exact memH | apply memT)) p (pm_mem hp ht)).1.g (Nat.le_trans (Fr.gv (l := l) hF (by repeat (first | exact memH | apply memT)) p (pm_mem hp ht)).2 (by decide))).mono ?_; rintro _ wy ⟨y, rfl, hy, hE, hyn⟩; have hyn2 := Nat.le_trans hyn (Fr.gv (l := l) hF (by repeat (first | exact memH | apply memT)) p (pm_mem hp ht)).2; have hyv := hy.val; replace hF := Fr.addLI (hF.exts hE) hy; clear hE hy hyn; refine Back.mk ?_) | (refine (hSort _ b13 l.length ls zs (hF.var .head) (by omega) hnd).mono ?_; rintro _ wy ⟨rfl, ls', hpls, hso, hV', hE⟩; replace hF := hF.wroteV (plc_no _ hzn) hE hV'; clear hE hV'; rw [← hpls.length_eq]; refine Back.mk ?_)) | (apply TL.ev; (case hd => rfl); (case h => (first | exact ev_simple rfl | exact ev_entry hF (by repeat (first | exact memH | apply memT)) rfl))) | (refine TL.storeAFr hF rfl rfl rfl rfl (by refine ⟨?_, ?_⟩; (focus (repeat (first | apply SetV.head | apply SetV.tail))); rfl) rfl ?_; clear hF; intro ws hF) | (refine TL.nextFr hF (.inl hr) (nfC (nf_mp hmr) (nfC (nf_cb hgr) (nfC nf_gv (nfC nf_gv nfN)))) rfl rfl (fun h0 wn hFn => ?_) (fun p todo' wn ht hFn => ?_) <;> clear hF <;> have hF := hFn <;> clear hFn) | (refine TL.allocFr hF (d := 4) rfl rfl ?_; clear hF; intro w4 b4 hF) | (refine TL.allocFr hF (d := 5) rfl rfl ?_; clear hF; intro w5 b5 hF) | (refine TL.buildXs hF (f := plc) (d := 32) [(p.1, y)] [.tmp 31] rfl rfl rfl rfl (by intro u hu; rfl) rfl rfl (by omega) (by omega) ?_; clear hF; intro w32 b32 hF hEn hbn hSn) | (refine TL.appendAtFr (f := plc) (l := ls) (zs := zs) hF rfl rfl rfl rfl hSn (fun _ => rfl) (fun _ => rfl) rfl rfl rfl hzl (by omega) (plc_no _ hzn) (by omega) (by repeat (first | exact SetV.head | apply SetV.tail)) (fun hle wa hFn => ?_) (fun hgt wa ba ca za hca hza hzan hFn => ?_) <;> clear hF hSn <;> have hF := hFn <;> clear hFn)) | (refine TF.is ?_; first | refine TF.nil ?_ | refine TF.e rfl ?_ | (refine TF.pick rfl ?_; first | (apply TFo.ev; (case hd => rfl); (case h => (intro wh hF; first | exact ev_simple rfl | (apply Ev.isLoad; first | exact ev_loadFr hF rfl (by refine ⟨?_, ?_⟩; (focus (repeat (first | exact InV.head | apply InV.tail))); rfl) | exact ev_loadAFr hF rfl (by refine ⟨?_, ?_⟩; (focus (repeat (first | exact InV.head | apply InV.tail))); rfl)) | exact ev_fieldAddr rfl | exact ev_buildX rfl rfl))))) | (refine T.is ?_; first | refine T.seq ?_ | refine T.region ?_ | refine T.block ?_ | refine T.cond_t rfl ?_ | refine T.cond_f rfl ?_ | refine T.exit ?_ | refine T.ret ?_ | refine T.skip ?_ | (refine T.regionFt (Fr.rotL hF) 7 11 (.s 0 (.s 1 (.s 2 (.s 3 (.s 4 (.s 5 (.e 6 (.s 7 (.e 8 (.e 9 (.s 10 .nil))))))))))) mixed (by kernel_rfl) ?_; clear hF; intro wr hF)) | (refine G.is ?_; first | refine G.next ?_ | refine G.blockN ?_ | refine G.blockE ?_ | refine G.thenE ?_ | refine G.only ?_ | refine G.tree rfl (by first | exact hF | exact hF.weak (List.sublist_append_right _ _) (by repeat (first | exact allR | apply allT)) | exact hF.weak (by repeat (first | exact List.Sublist.refl _ | apply List.Sublist.cons)) (by repeat (first | exact allR | apply allT)) | exact hF.weak (by repeat (first | exact List.Sublist.refl _ | apply List.Sublist.cons)) (by repeat (first | exact allN | refine allH (by repeat (first | exact memH | apply memT)) ?_))) ?_) | refine TL.nil ?_)
  · subst h0
    rw [List.append_nil] at hp
    have hgv := Fr.gv (l := ls) hF (by repeat (first | exact memH | apply memT))
    have hF2 := Fr.addGv hF (l := ls') fun p hp => hgv p (hpls.mem_iff.1 hp)
    have hlen := hpls.length_eq
    have hdl := hp.length_eq
    refine G.ret1 rfl rfl ⟨ls', b13, l.length, zs, rfl, ⟨by omega, by rw [hlen]; exact hzl, hzn⟩, hF2.weak (List.Sublist.refl _) (allH (by repeat (first | exact memH | apply memT)) allN), hso, ((hpls.map _).nodup_iff).2 hnd, by omega, fun k => ?_⟩
    have e1 := hlk.zk idk_inj k
    unfold zk at e1 ⊢
    rw [lkp_perm hn hp, ← e1, ← lkp_perm hnd hpls.symm]; rfl
  · refine G.again (done ++ [p], todo', ls ++ [(idk p.1, y)], zs.drop (1 * 4)) ?_ ⟨step_perm hp ht, ⟨hlk.snoc hyv, ?_, drop_noV hzn _⟩, ?_⟩ (step_mu ht)
    · dsimp only; rw [List.length_append]; exact (by repeat (first | exact Sub.nil _ | refine Sub.cons rfl ?_ | refine Sub.cons' rfl (int_congr (by omega)) ?_))
    · dsimp only; rw [List.length_drop, List.length_append, hzl]; simp only [List.length_cons, List.length_nil]; omega
    · exact (Fr.gvSnoc hF (lo := ls) (q := idk p.1) (by repeat (first | exact memH | apply memT)) (Fr.li hF (x := y) (z := ival p.2) (by repeat (first | exact memH | apply memT))) hyn2).weak (.cons_cons _ (List.nil_sublist _)) (allH (by repeat (first | exact memH | apply memT)) (allH (by repeat (first | exact memH | apply memT)) (allH (by repeat (first | exact memH | apply memT)) (allH (by repeat (first | exact memH | apply memT)) (allH (by repeat (first | exact memH | apply memT)) allN)))))
  · have := step_mu ht
    exact absurd hgt (by omega)
end Go.Proofs.Ytlpheckjogphmaa

namespace Go.Proofs
open Go.Shelf
def Try.sortPl_ren : Go.Shelf.Ren := ⟨fun | 6 => 53 | 15 => 82 | 14 => 81 | 28 => 101 | 29 => 65 | 20 => 93 | 21 => 94 | 22 => 95 | 23 => 96 | 24 => 97 | 25 => 98 | 26 => 99 | 27 => 100 | 46 => 105 | 47 => 106 | 48 => 107 | 49 => 108 | 50 => 109 | 57 => 111 | n => n, fun | 22 => 33 | 24 => 46 | 25 => 100 | 3 => 3 | 39 => 131 | 0 => 0 | 53 => 146 | 55 => 91 | 4 => 4 | 46 => 139 | 45 => 138 | 50 => 143 | 5 => 5 | 9 => 9 | 66 => 147 | 70 => 151 | 76 => 153 | 77 => 71 | n => n, fun | n => n⟩
theorem Try.sortPl : Go.Proofs.SlLaysF0.n6 Try.prog Try.sortPl_ren := {
  mixed := by kernel_rfl
  f6 := ⟨Try.f53.name, by decide, Try.func53.trans (congrArg some (by kernel_rfl))⟩
  f14 := ⟨Try.f81.name, by decide, Try.func81.trans (congrArg some (by kernel_rfl))⟩
  f15 := Try.func82.trans (congrArg some (by kernel_rfl))
  f20 := ⟨Try.f93.name, by decide, Try.func93.trans (congrArg some (by kernel_rfl))⟩
  f21 := ⟨Try.f94.name, by decide, Try.func94.trans (congrArg some (by kernel_rfl))⟩
  f22 := ⟨Try.f95.name, by decide, Try.func95.trans (congrArg some (by kernel_rfl))⟩
  f23 := ⟨Try.f96.name, by decide, Try.func96.trans (congrArg some (by kernel_rfl))⟩
  f24 := ⟨Try.f97.name, by decide, Try.func97.trans (congrArg some (by kernel_rfl))⟩
  f25 := ⟨Try.f98.name, by decide, Try.func98.trans (congrArg some (by kernel_rfl))⟩
  f26 := ⟨Try.f99.name, by decide, Try.func99.trans (congrArg some (by kernel_rfl))⟩
  f27 := ⟨Try.f100.name, by decide, Try.func100.trans (congrArg some (by kernel_rfl))⟩
  f28 := Try.func101.trans (congrArg some (by kernel_rfl))
  f29 := Try.func65.trans (congrArg some (by kernel_rfl))
  f46 := ⟨Try.f105.name, by decide, Try.func105.trans (congrArg some (by kernel_rfl))⟩
  f47 := Try.func106.trans (congrArg some (by kernel_rfl))
  f48 := Try.func107.trans (congrArg some (by kernel_rfl))
  f49 := ⟨Try.f108.name, by decide, Try.func108.trans (congrArg some (by kernel_rfl))⟩
  f50 := ⟨Try.f109.name, by decide, Try.func109.trans (congrArg some (by kernel_rfl))⟩
  f57 := ⟨Try.f111.name, by decide, Try.func111.trans (congrArg some (by kernel_rfl))⟩
  t0 := Try.underlying0
  a0 := Try.isAgg0
  z0 := Try.sizeOf0
  v0 := Try.zeroValue0
  t3 := Try.underlying3
  a3 := Try.isAgg3
  z3 := Try.sizeOf3
  v3 := Try.zeroValue3
  t4 := Try.underlying4
  a4 := Try.isAgg4
  z4 := Try.sizeOf4
  v4 := Try.zeroValue4
  t5 := Try.underlying5
  a5 := Try.isAgg5
  z5 := Try.sizeOf5
  v5 := Try.zeroValue5
  t9 := Try.underlying9
  a9 := Try.isAgg9
  z9 := Try.sizeOf9
  v9 := Try.zeroValue9
  t22 := Try.underlying33
  a22 := Try.isAgg33
  z22 := Try.sizeOf33
  v22 := Try.zeroValue33
  t25 := Try.underlying100
  a25 := Try.isAgg100
  z25 := Try.sizeOf100
  v25 := Try.zeroValue100
  t39 := Try.underlying131
  a39 := Try.isAgg131
  z39 := Try.sizeOf131
  v39 := Try.zeroValue131
  t45 := Try.underlying138
  a45 := Try.isAgg138
  z45 := Try.sizeOf138
  v45 := Try.zeroValue138
  t46 := Try.underlying139
  a46 := Try.isAgg139
  z46 := Try.sizeOf139
  v46 := Try.zeroValue139
  t50 := Try.underlying143
  a50 := Try.isAgg143
  z50 := Try.sizeOf143
  v50 := Try.zeroValue143
  t53 := Try.underlying146
  a53 := Try.isAgg146
  z53 := Try.sizeOf146
  v53 := Try.zeroValue146
  t55 := Try.underlying91
  a55 := Try.isAgg91
  z55 := Try.sizeOf91
  v55 := Try.zeroValue91
  t66 := Try.underlying147
  a66 := Try.isAgg147
  z66 := Try.sizeOf147
  v66 := Try.zeroValue147
  t70 := Try.underlying151
  a70 := Try.isAgg151
  z70 := Try.sizeOf151
  v70 := Try.zeroValue151
  t76 := Try.underlying153
  a76 := Try.isAgg153
  z76 := Try.sizeOf153
  v76 := Try.zeroValue153
  t77 := Try.underlying71
  a77 := Try.isAgg71
  z77 := Try.sizeOf71
  v77 := Try.zeroValue71 }
end Go.Proofs
