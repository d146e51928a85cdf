/- Layer 11: lines under work: rows of integers, each in a block of its own; the moves on them. -/
import Derived.Test.YtdhmhjbmkimplaaPp10
set_option linter.unusedVariables false
set_option linter.unusedSimpArgs false
namespace Go.Proofs.Ytdhmhjbmkimplaa
open Go Go.Eng Go.Proofs Go.NatM Go.RowKit

/-- a row in a block of its own -/
structure RB where
  b : Nat
  l : List IV
instance : Inhabited RB := ⟨⟨0, []⟩⟩
def rowv (c : Nat) (x : RB) : Value := .slice (some ⟨x.b, 0, none⟩) c c
def rowVB (x : RB) : VB := ⟨x.b, 40, x.l.flatMap ivc⟩
/-- the blocks of lines -/
def lns (g c : Nat) (R : List RB) (post : List VB) : List VB := ⟨g, 22, R.flatMap (fun x => [rowv c x])⟩ :: (R.map rowVB ++ post)
/-- the numbers of lines -/
def LsR (n c : Nat) (R : List RB) (F : Nat → Nat → Int) (K : Nat) (H : Array Obj) : Prop := ∀ i, i < n → LsK c (R.getD i default).l (F i) K H
def dpLn (n c : Nat) (R : List RB) (F : Nat → Nat → Int) (K : Nat) : DP := ⟨LsR n c R F K, fun _ => False, fun _ _ _ h => h.elim, fun _ _ hd h i hi q hq => ⟨(h i hi q hq).1.de hd, (h i hi q hq).2⟩⟩
/-- rows of one length -/
structure Rws (n c : Nat) (R : List RB) : Prop where
  n : R.length = n
  c : ∀ x ∈ R, x.l.length = c
theorem Rws.at {n c i : Nat} {R : List RB} (h : Rws n c R) (hi : i < n) : ∃ x, R[i]? = some x ∧ x.l.length = c ∧ R.getD i default = x := by
  have hl : i < R.length := by rw [h.n]; exact hi
  exact ⟨R[i], List.getElem?_eq_getElem hl, h.c _ (List.getElem_mem hl), by simp [List.getD, hl]⟩
theorem Rws.set {n c i : Nat} {R : List RB} {x : RB} (h : Rws n c R) (hx : x.l.length = c) : Rws n c (R.set i x) :=
  ⟨by rw [List.length_set]; exact h.n, fun y hy => by
    rcases List.mem_or_eq_of_mem_set hy with h1 | h1
    · exact h.c y h1
    · rw [h1]; exact hx⟩
section
variable {S : Nat → Prop} {w0 w w' : World} {L : List VB} {D : List DP}
theorem Fr.addLn (h : Fr w0 w L D S) {n c : Nat} {R : List RB} {F : Nat → Nat → Int} {K : Nat} (k : LsR n c R F K w.heap) : Fr w0 w L (dpLn n c R F K :: D) S := h.add _ k fun _ _ h => h
theorem Fr.ln (h : Fr w0 w L D S) {n c : Nat} {R : List RB} {F : Nat → Nat → Int} {K : Nat} (hm : dpLn n c R F K ∈ D) : LsR n c R F K w.heap := h.data _ hm
end
attribute [irreducible] dpLn

theorem LsK.setAt {H : Array Obj} {c : Nat} {l : List IV} {Z Z' : Nat → Int} {q K : Nat} {u : IV} (h : LsK c l Z K H) (hq : q < l.length) (hu : LI H (Z' q) u) (hn : u.m.n ≤ K) (e : ∀ p, p ≠ q → Z' p = Z p) : LsK c (l.set q u) Z' K H := by
  intro p hp
  by_cases hpq : p = q
  · subst hpq
    have e1 : (l.set p u).getD p default = u := by simp [List.getD, hq]
    rw [e1]; exact ⟨hu, hn⟩
  · have e1 : (l.set q u).getD p default = l.getD p default := by simp [List.getD, List.getElem?_set_ne (fun h => hpq h.symm)]
    rw [e1, e p hpq]; exact h p hp
theorem LsK.mono {H : Array Obj} {c K K' : Nat} {l : List IV} {Z : Nat → Int} (h : LsK c l Z K H) (hK : K ≤ K') : LsK c l Z K' H := fun q hq => ⟨(h q hq).1, Nat.le_trans (h q hq).2 hK⟩
theorem LsK.congr {H : Array Obj} {c K : Nat} {l : List IV} {Z Z' : Nat → Int} (h : LsK c l Z K H) (e : ∀ q, q < c → Z q = Z' q) : LsK c l Z' K H := fun q hq => by rw [← e q hq]; exact h q hq
theorem LsR.set {H : Array Obj} {n c K i : Nat} {R : List RB} {F F' : Nat → Nat → Int} {x : RB} (h : LsR n c R F K H) (hi : i < R.length) (hx : LsK c x.l (F' i) K H) (e : ∀ p, p ≠ i → F' p = F p) : LsR n c (R.set i x) F' K H := by
  intro p hp
  by_cases hpi : p = i
  · subst hpi
    have e1 : (R.set p x).getD p default = x := by simp [List.getD, hi]
    rw [e1]; exact hx
  · have e1 : (R.set i x).getD p default = R.getD p default := by simp [List.getD, List.getElem?_set_ne (fun h => hpi h.symm)]
    rw [e1, e p hpi]; exact h p hp
theorem LsR.mono {H : Array Obj} {n c K K' : Nat} {R : List RB} {F : Nat → Nat → Int} (h : LsR n c R F K H) (hK : K ≤ K') : LsR n c R F K' H := fun i hi => (h i hi).mono hK
section
variable {P : Program} {σ : Store} {d : Option Tmp} {t : TypeId} {pos : String} {af : Array Edge} {gd : Option (Nat × Bool)} {S : Nat → Prop} {w0 w : World} {L : List VB} {D : List DP}
theorem flat_one {α : Type} (f : α → Value) (l : List α) : l.flatMap (fun x => [f x]) = l.map f := by
  induction l with
  | nil => rfl
  | cons x l ih => rw [List.flatMap_cons, ih]; rfl
theorem ev_row (hF : Fr w0 w L D S) {x : Operand} {ty e : TypeId} [hO : UOne P ty] {g c i : Nat} {R : List RB} {r : RB} (hx : Eng.look σ x = some (.pointer (elemA (some ⟨g, 0, none⟩) i))) (hR : R[i]? = some r) (hV : InV L g e (R.flatMap (fun x => [rowv c x]))) : Ev P σ w.heap ⟨d, .load ty x, t, pos, af, gd⟩ (.slice (some ⟨r.b, 0, none⟩) c c) := by
  refine ev_loadV (b := g) (o := i) (by rw [hx]; simp [elemA, add_mk]) (hF.var hV) ?_
  rw [nthV_eq, flat_one, List.getElem?_map, hR]; rfl
theorem row_sm (hF : Fr w0 w L D S) {c : Nat} {r : RB} (hc : r.l.length = c) (hV : InV L r.b 40 (r.l.flatMap ivc)) : Sm 2 ivc w.heap w.heap.size (some ⟨r.b, 0, none⟩) c c r.l :=
  vr_sm (zs := []) (by omega) (fun _ _ => rfl) (by rw [List.append_nil]; exact hF.var hV) hc (Nat.le_refl _) (hF.var hV).lt
end
theorem InV.row {g c i : Nat} {R : List RB} {post : List VB} {x : RB} (hi : R[i]? = some x) : InV (lns g c R post) x.b 40 (x.l.flatMap ivc) := .tail (InV.map hi rfl)
theorem SetV.row {g c i q : Nat} {R : List RB} {post : List VB} {x : RB} {u : IV} (hi : R[i]? = some x) : SetV (lns g c R post) x.b 40 (x.l.flatMap ivc) ((x.l.set q u).flatMap ivc) (lns g c (R.set i ⟨x.b, x.l.set q u⟩) post) := by
  have h1 : (R.set i ⟨x.b, x.l.set q u⟩).flatMap (fun y => [rowv c y]) = R.flatMap (fun y => [rowv c y]) := by
    rw [flat_one, flat_one, List.map_set]
    apply List.ext_getElem?
    intro p
    rw [List.getElem?_set]
    split
    · rename_i hp
      subst hp
      split
      · rw [List.getElem?_map, hi]; rfl
      · rename_i hl
        rw [List.getElem?_eq_none (by simpa using hl)]
    · rfl
  unfold lns
  rw [h1]
  exact .tail (SetV.map (y := ⟨x.b, x.l.set q u⟩) hi rfl rfl)
theorem InV.head' {g c : Nat} {R : List RB} {post : List VB} : InV (lns g c R post) g 22 (R.flatMap (fun x => [rowv c x])) := .head
/-- what a move leaves -/
def RetOn (w : World) (g n c : Nat) (R : List RB) (F : Nat → Nat → Int) (K : Nat) (S : Nat → Prop) (e : Ending) (w' : World) : Prop :=
  e = .returned (.tuple #[]) ∧ ∃ R', Rws n c R' ∧ (R'.map (·.b)).Perm (R.map (·.b)) ∧ Fr w w' (lns g c R' []) [dpLn n c R' F K] S
theorem rw_put {n c i : Nat} {R : List RB} {x : RB} {l : List IV} (h : Rws n c R) (hi : R[i]? = some x) (hl : l.length = c) : Rws n c (R.set i ⟨x.b, l⟩) ∧ (R.set i ⟨x.b, l⟩)[i]? = some ⟨x.b, l⟩ ∧ ((R.set i ⟨x.b, l⟩).map (·.b)) = R.map (·.b) := by
  have hlt := (List.getElem?_eq_some_iff.1 hi).1
  refine ⟨h.set hl, by rw [List.getElem?_set, if_pos rfl, if_pos hlt], ?_⟩
  rw [List.map_set]
  apply List.ext_getElem?
  intro p
  rw [List.getElem?_set]
  split
  · rename_i hp
    subst hp
    rw [if_pos (by simpa using hlt), List.getElem?_map, hi]; rfl
  · rfl
theorem getD_set_ne {α : Type} [Inhabited α] {l : List α} {i q : Nat} {x : α} (h : q ≠ i) : (l.set i x).getD q default = l.getD q default := by simp [List.getD, List.getElem?_set_ne (Ne.symm h)]
theorem rw_same {i : Nat} {R : List RB} {x : RB} (hi : R[i]? = some x) : R.set i ⟨x.b, x.l⟩ = R := by
  apply List.ext_getElem?
  intro p
  rw [List.getElem?_set]
  split
  · rename_i hp
    subst hp
    rw [hi, if_pos (List.getElem?_eq_some_iff.1 hi).1]
  · rfl
theorem LsK.congrL {H : Array Obj} {c K : Nat} {Z Z' : Nat → Int} {x y : RB} (h : LsK c x.l Z K H) (hxy : x = y) (e : ∀ q, q < c → Z' q = Z q) : LsK c y.l Z' K H := by
  subst hxy
  exact fun q hq => by rw [e q hq]; exact h q hq
theorem Fr.flip2 {S : Nat → Prop} {w0 w : World} {L : List VB} {a b : DP} (h : Fr w0 w L [a, b] S) : Fr w0 w L [b, a] S := h.weak (List.Sublist.refl _) (allH (by repeat (first | exact memH | apply memT)) (allH (by repeat (first | exact memH | apply memT)) allN))
theorem zneg_ok (w : World) (x : IV) (gx : GI w.heap x) (hx : x.m.n ≤ 8796093022000) : Cl Try.prog 59 #[.agg (ivc x).toArray] w (RetZ w (- ival x) x.m.n) := by
  have hs := gx.s
  have hu := gx.u
  obtain ⟨neg, ⟨A, n, c, l⟩⟩ := x
  have hn : n ≤ 35184372088832 := by dsimp only at hx; omega
  have e : - ival ⟨neg, ⟨A, n, c, l⟩⟩ = sgn (!neg) (val l) := by unfold ival sgn; cases neg <;> simp
  rw [e]
  dsimp only at hs hu
  cases neg
  · refine enter Try.func59 rfl rfl rfl ?_
    have hF := Fr.refl w
    repeat' (first | (refine TL.isOp ?_; first | (refine TL.isG ?_; first | refine TL.grun rfl rfl rfl ?_ | refine TL.gskip rfl rfl rfl rfl ?_ | refine TL.gskipU rfl rfl rfl ?_) | (refine TL.isCall ?_; refine TL.call rfl rfl ?_; first | (refine (least_ok _ _ _ _ _ _ (hs.ext hF.ext) hu hn).mono ?_; rintro _ wl ⟨Al, nl, cl, rfl, hOl, hEl, hKl⟩; have hSl := hOl.sl (Nat.le_refl _); replace hF := Fr.addSl (hF.exts hEl) hSl; clear hOl hEl; refine Back.mk ?_) | (refine (of_ok _ _ _ _ _ _ (Fr.sl hF (by repeat (first | exact memH | apply memT)))).mono ?_; rintro _ wo ⟨rfl, hLo, hEo⟩; replace hF := Fr.addLI (hF.exts hEo) hLo; clear hLo hEo; refine Back.mk ?_)) | (refine TL.isBin ?_; refine TL.cmpG rfl rfl rfl rfl (fun hc => ?_) (fun hc => ?_) <;> (try (first | (exfalso; omega) | exact absurd rfl hc))) | (apply TL.ev; (case hd => rfl); (case h => (first | exact ev_simple rfl | (apply Ev.isBin; first | exact ev_arN rfl rfl rfl (by omega) | exact ev_arI rfl rfl rfl (by omega) | exact ev_eqlB (r := true) rfl rfl rfl | exact ev_eqlB (r := false) rfl rfl rfl | exact ev_neqB (r := true) rfl rfl rfl | exact ev_neqB (r := false) rfl rfl rfl) | (apply Ev.isLoad; first | exact ev_loadFr hF rfl (by refine ⟨?_, ?_⟩; (focus (repeat (first | exact InV.head | apply InV.tail))); rfl) | exact ev_loadAFr hF rfl (by refine ⟨?_, ?_⟩; (focus (repeat (first | exact InV.head | apply InV.tail))); rfl)) | exact ev_len rfl | exact ev_fieldAddr rfl | exact ev_field rfl rfl | exact ev_fieldA rfl rfl | exact ev_buildX rfl rfl | exact ev_makeFunc rfl | exact ev_nilCheck rfl | exact ev_neg rfl (by omega) | exact ev_cap rfl))) | (refine TL.storeAFr hF rfl rfl rfl rfl (by refine ⟨?_, ?_⟩; (focus (repeat (first | apply SetV.head | apply SetV.tail))); rfl) rfl ?_; clear hF; intro ws hF) | (refine TL.storeFr hF rfl rfl rfl rfl (by refine ⟨?_, ?_⟩; (focus (repeat (first | apply SetV.head | apply SetV.tail))); rfl) rfl ?_; clear hF; intro ws hF) | (refine TL.boxAFr hF (d := 1) (cs := [.bool false, .slice A n c]) rfl rfl ?_; clear hF; intro w1 b1 hF) | (refine TL.allocFr hF (d := 2) rfl rfl ?_; clear hF; intro w2 b2 hF) | (refine TL.boxAFr hF rfl rfl ?_; clear hF; intro wb bb hF) | (refine TL.boxFr hF rfl rfl ?_; clear hF; intro wb bb hF) | (refine TL.allocFr hF rfl rfl ?_; clear hF; intro wa ba hF)) | (refine TF.is ?_; first | refine TF.nil ?_ | refine TF.e rfl ?_ | refine TF.alt ?_ ?_ | (refine TF.pick rfl ?_; first | (refine TFo.cmpG rfl rfl rfl rfl (fun hc => ?_) (fun hc => ?_) <;> (try (first | (exfalso; omega) | exact absurd rfl hc))) | (refine TFo.cmpGg rfl rfl rfl rfl rfl rfl rfl (fun hc => ?_) (fun hc => ?_) <;> (try (first | (exfalso; omega) | exact absurd rfl hc))) | (apply TFo.ev; (case hd => rfl); (case h => (intro wh hF; first | exact ev_simple rfl | (apply Ev.isBin; first | exact ev_arN rfl rfl rfl (by omega) | exact ev_arI rfl rfl rfl (by omega) | exact ev_eqlB (r := true) rfl rfl rfl | exact ev_eqlB (r := false) rfl rfl rfl | exact ev_neqB (r := true) rfl rfl rfl | exact ev_neqB (r := false) rfl rfl rfl) | (apply Ev.isLoad; first | exact ev_loadFr hF rfl (by refine ⟨?_, ?_⟩; (focus (repeat (first | exact InV.head | apply InV.tail))); rfl) | exact ev_loadAFr hF rfl (by refine ⟨?_, ?_⟩; (focus (repeat (first | exact InV.head | apply InV.tail))); rfl)) | exact ev_len rfl | exact ev_fieldAddr rfl | exact ev_field rfl rfl | exact ev_fieldA rfl rfl | exact ev_buildX rfl rfl | exact ev_makeFunc rfl | exact ev_nilCheck rfl | exact ev_neg rfl (by omega) | exact ev_cap rfl))) | (apply TFo.evg rfl rfl rfl; (case hd => rfl); (case h => (intro wh hF; first | exact ev_simple rfl | (apply Ev.isBin; first | exact ev_arN rfl rfl rfl (by omega) | exact ev_arI rfl rfl rfl (by omega) | exact ev_eqlB (r := true) rfl rfl rfl | exact ev_eqlB (r := false) rfl rfl rfl | exact ev_neqB (r := true) rfl rfl rfl | exact ev_neqB (r := false) rfl rfl rfl) | (apply Ev.isLoad; first | exact ev_loadFr hF rfl (by refine ⟨?_, ?_⟩; (focus (repeat (first | exact InV.head | apply InV.tail))); rfl) | exact ev_loadAFr hF rfl (by refine ⟨?_, ?_⟩; (focus (repeat (first | exact InV.head | apply InV.tail))); rfl)) | exact ev_len rfl | exact ev_fieldAddr rfl | exact ev_field rfl rfl | exact ev_fieldA rfl rfl | exact ev_buildX rfl rfl | exact ev_makeFunc rfl | exact ev_nilCheck rfl | exact ev_neg rfl (by omega) | exact ev_cap rfl))) | refine TFo.skip rfl rfl rfl rfl ?_ | refine TFo.skipU rfl rfl rfl ?_)) | (refine T.is ?_; first | refine T.seq ?_ | refine T.region ?_ | refine T.block ?_ | refine T.cond_t rfl ?_ | refine T.cond_f rfl ?_ | refine T.exit ?_ | refine T.ret ?_ | refine T.skip ?_ | (refine T.regionFr hF 1 7 (.s 0 (.s 1 (.s 2 (.s 3 (.s 4 (.e 5 (.e 6 (.e 7 .nil)))))))) mixed (by kernel_rfl) ?_; clear hF; intro wr hF) | refine T.regionQ mixed (by kernel_rfl) ?_) | (refine G.is ?_; first | refine G.next ?_ | refine G.blockN ?_ | refine G.blockE ?_ | refine G.blockE' rfl ?_ | refine G.blockR ?_ | refine G.thenE ?_ | refine G.thenR ?_ | refine G.only ?_ | refine G.treeEnd rfl ?_ | refine G.tree rfl (by first | exact hF | exact hF.weak (by repeat (first | exact List.Sublist.refl _ | apply List.Sublist.cons)) (by repeat (first | exact allR | apply allT)) | exact hF.weak (by repeat (first | exact List.Sublist.refl _ | apply List.Sublist.cons)) (by repeat (first | exact allN | refine allH (by repeat (first | exact memH | apply memT)) ?_))) ?_) | refine TL.nil ?_ | (refine TL.nilFr hF ?_; clear hF; intro wq hF))
    exact G.retC1 rfl rfl (held_agg (hF.var (by repeat (first | exact InV.head | apply InV.tail))) rfl) ⟨_, rfl, Fr.li hF (by repeat (first | exact memH | apply memT)), hF.ext, hKl⟩
  · refine enter Try.func59 rfl rfl rfl ?_
    have hF := Fr.refl w
    repeat' (first | (refine TL.isOp ?_; first | (refine TL.isG ?_; first | refine TL.grun rfl rfl rfl ?_ | refine TL.gskip rfl rfl rfl rfl ?_ | refine TL.gskipU rfl rfl rfl ?_) | (refine TL.isCall ?_; refine TL.call rfl rfl ?_; first | (refine (least_ok _ _ _ _ _ _ (hs.ext hF.ext) hu hn).mono ?_; rintro _ wl ⟨Al, nl, cl, rfl, hOl, hEl, hKl⟩; have hSl := hOl.sl (Nat.le_refl _); replace hF := Fr.addSl (hF.exts hEl) hSl; clear hOl hEl; refine Back.mk ?_) | (refine (of_ok _ _ _ _ _ _ (Fr.sl hF (by repeat (first | exact memH | apply memT)))).mono ?_; rintro _ wo ⟨rfl, hLo, hEo⟩; replace hF := Fr.addLI (hF.exts hEo) hLo; clear hLo hEo; refine Back.mk ?_)) | (refine TL.isBin ?_; refine TL.cmpG rfl rfl rfl rfl (fun hc => ?_) (fun hc => ?_) <;> (try (first | (exfalso; omega) | exact absurd rfl hc))) | (apply TL.ev; (case hd => rfl); (case h => (first | exact ev_simple rfl | (apply Ev.isBin; first | exact ev_arN rfl rfl rfl (by omega) | exact ev_arI rfl rfl rfl (by omega) | exact ev_eqlB (r := true) rfl rfl rfl | exact ev_eqlB (r := false) rfl rfl rfl | exact ev_neqB (r := true) rfl rfl rfl | exact ev_neqB (r := false) rfl rfl rfl) | (apply Ev.isLoad; first | exact ev_loadFr hF rfl (by refine ⟨?_, ?_⟩; (focus (repeat (first | exact InV.head | apply InV.tail))); rfl) | exact ev_loadAFr hF rfl (by refine ⟨?_, ?_⟩; (focus (repeat (first | exact InV.head | apply InV.tail))); rfl)) | exact ev_len rfl | exact ev_fieldAddr rfl | exact ev_field rfl rfl | exact ev_fieldA rfl rfl | exact ev_buildX rfl rfl | exact ev_makeFunc rfl | exact ev_nilCheck rfl | exact ev_neg rfl (by omega) | exact ev_cap rfl))) | (refine TL.storeAFr hF rfl rfl rfl rfl (by refine ⟨?_, ?_⟩; (focus (repeat (first | apply SetV.head | apply SetV.tail))); rfl) rfl ?_; clear hF; intro ws hF) | (refine TL.storeFr hF rfl rfl rfl rfl (by refine ⟨?_, ?_⟩; (focus (repeat (first | apply SetV.head | apply SetV.tail))); rfl) rfl ?_; clear hF; intro ws hF) | (refine TL.boxAFr hF (d := 1) (cs := [.bool true, .slice A n c]) rfl rfl ?_; clear hF; intro w1 b1 hF) | (refine TL.allocFr hF (d := 2) rfl rfl ?_; clear hF; intro w2 b2 hF) | (refine TL.boxAFr hF rfl rfl ?_; clear hF; intro wb bb hF) | (refine TL.boxFr hF rfl rfl ?_; clear hF; intro wb bb hF) | (refine TL.allocFr hF rfl rfl ?_; clear hF; intro wa ba hF)) | (refine TF.is ?_; first | refine TF.nil ?_ | refine TF.e rfl ?_ | refine TF.alt ?_ ?_ | (refine TF.pick rfl ?_; first | (refine TFo.cmpG rfl rfl rfl rfl (fun hc => ?_) (fun hc => ?_) <;> (try (first | (exfalso; omega) | exact absurd rfl hc))) | (refine TFo.cmpGg rfl rfl rfl rfl rfl rfl rfl (fun hc => ?_) (fun hc => ?_) <;> (try (first | (exfalso; omega) | exact absurd rfl hc))) | (apply TFo.ev; (case hd => rfl); (case h => (intro wh hF; first | exact ev_simple rfl | (apply Ev.isBin; first | exact ev_arN rfl rfl rfl (by omega) | exact ev_arI rfl rfl rfl (by omega) | exact ev_eqlB (r := true) rfl rfl rfl | exact ev_eqlB (r := false) rfl rfl rfl | exact ev_neqB (r := true) rfl rfl rfl | exact ev_neqB (r := false) rfl rfl rfl) | (apply Ev.isLoad; first | exact ev_loadFr hF rfl (by refine ⟨?_, ?_⟩; (focus (repeat (first | exact InV.head | apply InV.tail))); rfl) | exact ev_loadAFr hF rfl (by refine ⟨?_, ?_⟩; (focus (repeat (first | exact InV.head | apply InV.tail))); rfl)) | exact ev_len rfl | exact ev_fieldAddr rfl | exact ev_field rfl rfl | exact ev_fieldA rfl rfl | exact ev_buildX rfl rfl | exact ev_makeFunc rfl | exact ev_nilCheck rfl | exact ev_neg rfl (by omega) | exact ev_cap rfl))) | (apply TFo.evg rfl rfl rfl; (case hd => rfl); (case h => (intro wh hF; first | exact ev_simple rfl | (apply Ev.isBin; first | exact ev_arN rfl rfl rfl (by omega) | exact ev_arI rfl rfl rfl (by omega) | exact ev_eqlB (r := true) rfl rfl rfl | exact ev_eqlB (r := false) rfl rfl rfl | exact ev_neqB (r := true) rfl rfl rfl | exact ev_neqB (r := false) rfl rfl rfl) | (apply Ev.isLoad; first | exact ev_loadFr hF rfl (by refine ⟨?_, ?_⟩; (focus (repeat (first | exact InV.head | apply InV.tail))); rfl) | exact ev_loadAFr hF rfl (by refine ⟨?_, ?_⟩; (focus (repeat (first | exact InV.head | apply InV.tail))); rfl)) | exact ev_len rfl | exact ev_fieldAddr rfl | exact ev_field rfl rfl | exact ev_fieldA rfl rfl | exact ev_buildX rfl rfl | exact ev_makeFunc rfl | exact ev_nilCheck rfl | exact ev_neg rfl (by omega) | exact ev_cap rfl))) | refine TFo.skip rfl rfl rfl rfl ?_ | refine TFo.skipU rfl rfl rfl ?_)) | (refine T.is ?_; first | refine T.seq ?_ | refine T.region ?_ | refine T.block ?_ | refine T.cond_t rfl ?_ | refine T.cond_f rfl ?_ | refine T.exit ?_ | refine T.ret ?_ | refine T.skip ?_ | (refine T.regionFr hF 1 7 (.s 0 (.s 1 (.s 2 (.s 3 (.s 4 (.e 5 (.e 6 (.e 7 .nil)))))))) mixed (by kernel_rfl) ?_; clear hF; intro wr hF) | refine T.regionQ mixed (by kernel_rfl) ?_) | (refine G.is ?_; first | refine G.next ?_ | refine G.blockN ?_ | refine G.blockE ?_ | refine G.blockE' rfl ?_ | refine G.blockR ?_ | refine G.thenE ?_ | refine G.thenR ?_ | refine G.only ?_ | refine G.treeEnd rfl ?_ | refine G.tree rfl (by first | exact hF | exact hF.weak (by repeat (first | exact List.Sublist.refl _ | apply List.Sublist.cons)) (by repeat (first | exact allR | apply allT)) | exact hF.weak (by repeat (first | exact List.Sublist.refl _ | apply List.Sublist.cons)) (by repeat (first | exact allN | refine allH (by repeat (first | exact memH | apply memT)) ?_))) ?_) | refine TL.nil ?_ | (refine TL.nilFr hF ?_; clear hF; intro wq hF))
    exact G.retC1 rfl rfl (held_agg (hF.var (by repeat (first | exact InV.head | apply InV.tail))) rfl) ⟨_, rfl, Fr.li hF (by repeat (first | exact memH | apply memT)), hF.ext, hKl⟩
set_option maxRecDepth 100000 in
set_option maxHeartbeats 8000000 in
theorem neg_on (w : World) (g n c i K : Nat) (R : List RB) (F : Nat → Nat → Int) (S : Nat → Prop) (hR : Rws n c R) (hi : i < n) (hc : c ≤ 64) (hK : K ≤ 8796093022000) (hF : Fr w w (lns g c R []) [dpLn n c R F K] S) :
    Cl Try.prog 135 #[.agg #[.int .i64 (i : Int)], .slice (some ⟨g, 0, none⟩) n n] w (RetOn w g n c R (fun p q => if p = i then - F i q else F p q) K S) := by
  obtain ⟨x, hx, hxl, hxd⟩ := hR.at hi
  refine enter Try.func135 rfl rfl rfl ?_
  have hR0 := hR.n
  repeat' (first | (refine TL.isOp ?_; first | (refine TL.isG ?_; first | refine TL.grun rfl rfl rfl ?_ | refine TL.gskip rfl rfl rfl rfl ?_ | refine TL.gskipU rfl rfl rfl ?_) | (refine TL.isBin ?_; refine TL.cmpG rfl rfl rfl rfl (fun hc => ?_) (fun hc => ?_) <;> (try (first | (exfalso; omega) | exact absurd rfl hc))) | (apply TL.ev; (case hd => rfl); (case h => (first | exact ev_simple rfl | (apply Ev.isBin; first | exact ev_arN rfl rfl rfl (by omega) | exact ev_arI rfl rfl rfl (by omega) | exact ev_eqlB (r := true) rfl rfl rfl | exact ev_eqlB (r := false) rfl rfl rfl | exact ev_neqB (r := true) rfl rfl rfl | exact ev_neqB (r := false) rfl rfl rfl) | (apply Ev.isLoad; first | exact ev_loadFr hF rfl (by refine ⟨?_, ?_⟩; (focus (repeat (first | exact InV.head | apply InV.tail))); rfl) | exact ev_loadAFr hF rfl (by refine ⟨?_, ?_⟩; (focus (repeat (first | exact InV.head | apply InV.tail))); rfl)) | exact ev_len rfl | exact ev_fieldAddr rfl | exact ev_field rfl rfl | exact ev_fieldA rfl rfl | exact ev_buildX rfl rfl | exact ev_makeFunc rfl | exact ev_nilCheck rfl | exact ev_neg rfl (by omega) | exact ev_cap rfl | exact ev_indexN rfl rfl hi (.inr rfl) | exact ev_row hF rfl hx (by repeat (first | exact InV.head | apply InV.tail))))) | (refine TL.storeAFr hF rfl rfl rfl rfl (by refine ⟨?_, ?_⟩; (focus (repeat (first | apply SetV.head | apply SetV.tail))); rfl) rfl ?_; clear hF; intro ws hF) | (refine TL.storeFr hF rfl rfl rfl rfl (by refine ⟨?_, ?_⟩; (focus (repeat (first | apply SetV.head | apply SetV.tail))); rfl) rfl ?_; clear hF; intro ws hF) | (refine TL.boxAFr hF (d := 2) (cs := [.int .i64 (i : Int)]) rfl rfl ?_; clear hF; intro w2 b2 hF) | (refine TL.boxAFr hF rfl rfl ?_; clear hF; intro wb bb hF) | (refine TL.boxFr hF rfl rfl ?_; clear hF; intro wb bb hF) | (refine TL.allocFr hF rfl rfl ?_; clear hF; intro wa ba hF)) | (refine T.is ?_; first | refine T.seq ?_ | refine T.region ?_ | refine T.block ?_ | refine T.cond_t rfl ?_ | refine T.cond_f rfl ?_ | refine T.exit ?_ | refine T.ret ?_ | refine T.skip ?_ | refine T.regionQ mixed (by kernel_rfl) ?_) | (refine G.is ?_; first | refine G.next ?_ | refine G.blockN ?_ | refine G.blockE ?_ | refine G.blockE' rfl ?_ | refine G.blockR ?_ | refine G.thenE ?_ | refine G.thenR ?_ | refine G.only ?_) | refine TL.nil ?_ | (refine TL.nilFr hF ?_; clear hF; intro wq hF))
  refine T.loop (α := Nat × List IV) (fun z => [(1, .slice (some ⟨g, 0, none⟩) n n), (2, .pointer (some ⟨b2, 0, none⟩)), (10, .slice (some ⟨x.b, 0, none⟩) c c), (11, .int .i64 (c : Int)), (12, .int .i64 (z.1 : Int))])
    (fun z w' => z.1 ≤ c ∧ z.2.length = c ∧ Fr w w' (⟨b2, 110, [.int .i64 (i : Int)]⟩ :: lns g c (R.set i ⟨x.b, z.2⟩) []) [dpLn n c R F K, dpLK c z.2 (fun q => if q < z.1 then - F i q else F i q) K] S)
    (fun z => c - z.1) (0, x.l) (by repeat (first | exact Sub.nil _ | refine Sub.cons rfl ?_ | refine Sub.cons' rfl (int_congr (by omega)) ?_)) ⟨Nat.zero_le _, hxl, ?_⟩ ?_
  · rw [rw_same hx]
    exact Fr.flip2 (Fr.addLK hF ((Fr.ln hF (R := R) (F := F) (K := K) (n := n) (by repeat (first | exact memH | apply memT)) i hi).congrL (Z' := fun q => if q < 0 then - F i q else F i q) hxd fun q hq => by rw [if_neg (Nat.not_lt_zero _)]))
  · clear hF
    rintro ⟨q, zl⟩ w2 ⟨hq, hzl, hF⟩
    dsimp only at hq hzl hF ⊢
    obtain ⟨hR', hx', hb'⟩ := rw_put (l := zl) hR hx hzl
    rcases Nat.lt_or_ge q c with hqn | hqn
    · have hy : zl[q]? = some (zl.getD q default) := by simp [List.getD, show q < zl.length by omega]
      obtain ⟨y, ey⟩ : ∃ y, zl.getD q default = y := ⟨_, rfl⟩
      rw [ey] at hy
      have hky : LI w2.heap (F i q) y ∧ y.m.n ≤ K := by
        have h := (Fr.lk hF (i := c) (l := zl) (Z := fun p => if p < q then - F i p else F i p) (K := K) (by repeat (first | exact memH | apply memT))) q hqn
        rw [ey] at h
        dsimp only at h
        rwa [if_neg (Nat.lt_irrefl _)] at h
      replace hF := Fr.addLI hF hky.1
      have hkn := hky.2
      clear hky
      repeat' (first | (refine TL.isOp ?_; first | (refine TL.isG ?_; first | refine TL.grun rfl rfl rfl ?_ | refine TL.gskip rfl rfl rfl rfl ?_ | refine TL.gskipU rfl rfl rfl ?_) | (refine TL.isCall ?_; refine TL.call rfl rfl ?_; first | (refine (zneg_ok _ y (Fr.li hF (x := y) (by repeat (first | exact memH | apply memT))).g (by omega)).mono ?_; rintro _ w1 ⟨u, rfl, hLu, hE, hKu⟩; rw [(Fr.li hF (x := y) (by repeat (first | exact memH | apply memT))).val] at hLu; replace hF := Fr.addLI (hF.exts hE) hLu; clear hE hLu; refine Back.mk ?_)) | (refine TL.isBin ?_; refine TL.cmpG rfl rfl rfl rfl (fun hc => ?_) (fun hc => ?_) <;> (try (first | (exfalso; omega) | exact absurd rfl hc))) | (apply TL.ev; (case hd => rfl); (case h => (first | exact ev_simple rfl | (apply Ev.isBin; first | exact ev_arN rfl rfl rfl (by omega) | exact ev_arI rfl rfl rfl (by omega) | exact ev_eqlB (r := true) rfl rfl rfl | exact ev_eqlB (r := false) rfl rfl rfl | exact ev_neqB (r := true) rfl rfl rfl | exact ev_neqB (r := false) rfl rfl rfl) | (apply Ev.isLoad; first | exact ev_loadFr hF rfl (by refine ⟨?_, ?_⟩; (focus (repeat (first | exact InV.head | apply InV.tail))); rfl) | exact ev_loadAFr hF rfl (by refine ⟨?_, ?_⟩; (focus (repeat (first | exact InV.head | apply InV.tail))); rfl) | exact ev_loadM rfl (row_sm (r := ⟨x.b, zl⟩) hF hzl (by repeat (first | exact InV.row hx' | apply InV.tail))) hy) | exact ev_len rfl | exact ev_fieldAddr rfl | exact ev_field rfl rfl | exact ev_fieldA rfl rfl | exact ev_buildX rfl rfl | exact ev_makeFunc rfl | exact ev_nilCheck rfl | exact ev_neg rfl (by omega) | exact ev_cap rfl | exact ev_indexM rfl rfl hqn (.inr rfl) | exact ev_indexN rfl rfl hi (.inr rfl) | exact ev_row hF rfl hx' (by repeat (first | exact InV.head' | apply InV.tail))))) | (refine TL.storeAFr hF rfl rfl rfl rfl (by refine ⟨?_, ?_⟩; (focus (repeat (first | apply SetV.head | apply SetV.tail))); rfl) rfl ?_; clear hF; intro ws hF) | (refine TL.storeFr hF rfl rfl rfl rfl (by refine ⟨?_, ?_⟩; (focus (repeat (first | apply SetV.head | apply SetV.tail))); rfl) rfl ?_; clear hF; intro ws hF) | (refine TL.allocFr hF (d := 5) rfl rfl ?_; clear hF; intro w5 b5 hF) | (refine TL.storeAtFr hF (f := ivc) u rfl rfl rfl rfl (fun _ => rfl) (by rw [hzl]; exact hqn) (ivc_noV zl) (by repeat (first | exact SetV.row hx' | apply SetV.tail)) ?_; clear hF; intro ws hF) | (refine TL.boxAFr hF rfl rfl ?_; clear hF; intro wb bb hF) | (refine TL.boxFr hF rfl rfl ?_; clear hF; intro wb bb hF) | (refine TL.allocFr hF rfl rfl ?_; clear hF; intro wa ba hF)) | (refine TF.is ?_; first | refine TF.nil ?_ | refine TF.e rfl ?_ | refine TF.alt ?_ ?_ | (refine TF.pick rfl ?_; first | (refine TFo.cmpG rfl rfl rfl rfl (fun hc => ?_) (fun hc => ?_) <;> (try (first | (exfalso; omega) | exact absurd rfl hc))) | (refine TFo.cmpGg rfl rfl rfl rfl rfl rfl rfl (fun hc => ?_) (fun hc => ?_) <;> (try (first | (exfalso; omega) | exact absurd rfl hc))) | (apply TFo.ev; (case hd => rfl); (case h => (intro wh hF; first | exact ev_simple rfl | (apply Ev.isBin; first | exact ev_arN rfl rfl rfl (by omega) | exact ev_arI rfl rfl rfl (by omega) | exact ev_eqlB (r := true) rfl rfl rfl | exact ev_eqlB (r := false) rfl rfl rfl | exact ev_neqB (r := true) rfl rfl rfl | exact ev_neqB (r := false) rfl rfl rfl) | (apply Ev.isLoad; first | exact ev_loadFr hF rfl (by refine ⟨?_, ?_⟩; (focus (repeat (first | exact InV.head | apply InV.tail))); rfl) | exact ev_loadAFr hF rfl (by refine ⟨?_, ?_⟩; (focus (repeat (first | exact InV.head | apply InV.tail))); rfl) | exact ev_loadM rfl (row_sm (r := ⟨x.b, zl⟩) hF hzl (by repeat (first | exact InV.row hx' | apply InV.tail))) hy) | exact ev_len rfl | exact ev_fieldAddr rfl | exact ev_field rfl rfl | exact ev_fieldA rfl rfl | exact ev_buildX rfl rfl | exact ev_makeFunc rfl | exact ev_nilCheck rfl | exact ev_neg rfl (by omega) | exact ev_cap rfl | exact ev_indexM rfl rfl hqn (.inr rfl) | exact ev_indexN rfl rfl hi (.inr rfl) | exact ev_row hF rfl hx' (by repeat (first | exact InV.head' | apply InV.tail))))) | (apply TFo.evg rfl rfl rfl; (case hd => rfl); (case h => (intro wh hF; first | exact ev_simple rfl | (apply Ev.isBin; first | exact ev_arN rfl rfl rfl (by omega) | exact ev_arI rfl rfl rfl (by omega) | exact ev_eqlB (r := true) rfl rfl rfl | exact ev_eqlB (r := false) rfl rfl rfl | exact ev_neqB (r := true) rfl rfl rfl | exact ev_neqB (r := false) rfl rfl rfl) | (apply Ev.isLoad; first | exact ev_loadFr hF rfl (by refine ⟨?_, ?_⟩; (focus (repeat (first | exact InV.head | apply InV.tail))); rfl) | exact ev_loadAFr hF rfl (by refine ⟨?_, ?_⟩; (focus (repeat (first | exact InV.head | apply InV.tail))); rfl) | exact ev_loadM rfl (row_sm (r := ⟨x.b, zl⟩) hF hzl (by repeat (first | exact InV.row hx' | apply InV.tail))) hy) | exact ev_len rfl | exact ev_fieldAddr rfl | exact ev_field rfl rfl | exact ev_fieldA rfl rfl | exact ev_buildX rfl rfl | exact ev_makeFunc rfl | exact ev_nilCheck rfl | exact ev_neg rfl (by omega) | exact ev_cap rfl | exact ev_indexM rfl rfl hqn (.inr rfl) | exact ev_indexN rfl rfl hi (.inr rfl) | exact ev_row hF rfl hx' (by repeat (first | exact InV.head' | apply InV.tail))))) | refine TFo.skip rfl rfl rfl rfl ?_ | refine TFo.skipU rfl rfl rfl ?_)) | (refine T.is ?_; first | refine T.seq ?_ | refine T.region ?_ | refine T.block ?_ | refine T.cond_t rfl ?_ | refine T.cond_f rfl ?_ | refine T.exit ?_ | refine T.ret ?_ | refine T.skip ?_ | (refine T.regionFr hF 4 9 (.s 0 (.s 1 (.s 2 (.s 3 (.s 4 (.s 5 (.s 6 (.e 7 (.s 8 (.e 9 .nil)))))))))) mixed (by kernel_rfl) ?_; clear hF; intro wr hF) | refine T.regionQ mixed (by kernel_rfl) ?_) | (refine G.is ?_; first | refine G.next ?_ | refine G.blockN ?_ | refine G.blockE ?_ | refine G.blockE' rfl ?_ | refine G.blockR ?_ | refine G.thenE ?_ | refine G.thenR ?_ | refine G.only ?_ | refine G.treeEnd rfl ?_ | refine G.tree rfl (by first | exact hF | exact hF.weak (by repeat (first | exact List.Sublist.refl _ | apply List.Sublist.cons)) (by repeat (first | exact allR | apply allT)) | exact hF.weak (by repeat (first | exact List.Sublist.refl _ | apply List.Sublist.cons)) (by repeat (first | exact allN | refine allH (by repeat (first | exact memH | apply memT)) ?_))) ?_) | refine TL.nil ?_ | (refine TL.nilFr hF ?_; clear hF; intro wq hF))
      have hk := (Fr.lk hF (i := c) (l := zl) (Z := fun p => if p < q then - F i p else F i p) (K := K) (by repeat (first | exact memH | apply memT))).setAt (Z' := fun p => if p < q + 1 then - F i p else F i p) (u := u) (q := q) (by omega) (by rw [if_pos (Nat.lt_succ_self _)]; exact Fr.li hF (by repeat (first | exact memH | apply memT))) (by omega) (fun p hp => by by_cases h : p < q <;> simp [h, show p < q + 1 ↔ p < q by omega])
      rw [List.set_set] at hF
      exact G.again (q + 1, zl.set q u) (by repeat (first | exact Sub.nil _ | refine Sub.cons rfl ?_ | refine Sub.cons' rfl (int_congr (by omega)) ?_)) ⟨by dsimp only; omega, by rw [List.length_set]; exact hzl, Fr.flip2 (Fr.addLK (hF.weak (D := [dpLn n c R F K]) (.cons _ (.refl _)) (allH (by repeat (first | exact memH | apply memT)) allN)) hk)⟩ (by dsimp only; omega)
    · obtain rfl : q = c := by omega
      repeat' (first | (refine TL.isOp ?_; first | (refine TL.isG ?_; first | refine TL.grun rfl rfl rfl ?_ | refine TL.gskip rfl rfl rfl rfl ?_ | refine TL.gskipU rfl rfl rfl ?_) | (refine TL.isBin ?_; refine TL.cmpG rfl rfl rfl rfl (fun hc => ?_) (fun hc => ?_) <;> (try (first | (exfalso; omega) | exact absurd rfl hc))) | (apply TL.ev; (case hd => rfl); (case h => (first | exact ev_simple rfl | (apply Ev.isBin; first | exact ev_arN rfl rfl rfl (by omega) | exact ev_arI rfl rfl rfl (by omega) | exact ev_eqlB (r := true) rfl rfl rfl | exact ev_eqlB (r := false) rfl rfl rfl | exact ev_neqB (r := true) rfl rfl rfl | exact ev_neqB (r := false) rfl rfl rfl) | (apply Ev.isLoad; first | exact ev_loadFr hF rfl (by refine ⟨?_, ?_⟩; (focus (repeat (first | exact InV.head | apply InV.tail))); rfl) | exact ev_loadAFr hF rfl (by refine ⟨?_, ?_⟩; (focus (repeat (first | exact InV.head | apply InV.tail))); rfl)) | exact ev_len rfl | exact ev_fieldAddr rfl | exact ev_field rfl rfl | exact ev_fieldA rfl rfl | exact ev_buildX rfl rfl | exact ev_makeFunc rfl | exact ev_nilCheck rfl | exact ev_neg rfl (by omega) | exact ev_cap rfl))) | (refine TL.storeAFr hF rfl rfl rfl rfl (by refine ⟨?_, ?_⟩; (focus (repeat (first | apply SetV.head | apply SetV.tail))); rfl) rfl ?_; clear hF; intro ws hF) | (refine TL.storeFr hF rfl rfl rfl rfl (by refine ⟨?_, ?_⟩; (focus (repeat (first | apply SetV.head | apply SetV.tail))); rfl) rfl ?_; clear hF; intro ws hF) | (refine TL.boxAFr hF rfl rfl ?_; clear hF; intro wb bb hF) | (refine TL.boxFr hF rfl rfl ?_; clear hF; intro wb bb hF) | (refine TL.allocFr hF rfl rfl ?_; clear hF; intro wa ba hF)) | (refine T.is ?_; first | refine T.seq ?_ | refine T.region ?_ | refine T.block ?_ | refine T.cond_t rfl ?_ | refine T.cond_f rfl ?_ | refine T.exit ?_ | refine T.ret ?_ | refine T.skip ?_ | refine T.regionQ mixed (by kernel_rfl) ?_) | (refine G.is ?_; first | refine G.next ?_ | refine G.blockN ?_ | refine G.blockE ?_ | refine G.blockE' rfl ?_ | refine G.blockR ?_ | refine G.thenE ?_ | refine G.thenR ?_ | refine G.only ?_) | refine TL.nil ?_ | (refine TL.nilFr hF ?_; clear hF; intro wq hF))
      refine G.end0 rfl ⟨rfl, R.set i ⟨x.b, zl⟩, hR', by rw [hb'], ?_⟩
      have hk := (Fr.ln hF (R := R) (F := F) (K := K) (n := n) (by repeat (first | exact memH | apply memT))).set (i := i) (F' := fun p r => if p = i then - F i r else F p r) (x := ⟨x.b, zl⟩) (by omega) ((Fr.lk hF (i := q) (l := zl) (by repeat (first | exact memH | apply memT))).congr fun p hp => by simp [hp]) (fun p hp => by funext r; simp [hp])
      exact Fr.addLn (hF.weak (D := []) (.cons _ (.refl _)) allN) hk
set_option maxRecDepth 100000 in
set_option maxHeartbeats 8000000 in
theorem add_on (w : World) (g n c i j K Kk : Nat) (k : IV) (R : List RB) (F : Nat → Nat → Int) (S : Nat → Prop) (hR : Rws n c R) (hi : i < n) (hj : j < n) (hij : i ≠ j) (hc : c ≤ 64) (hK : K ≤ 4398046511104) (hkn : k.m.n ≤ Kk) (hKk : Kk ≤ 4398046511104) (hF : Fr w w (lns g c R []) [dpGI k, dpLn n c R F K] S) :
    Cl Try.prog 128 #[.agg (.int .i64 (i : Int) :: .int .i64 (j : Int) :: ivc k).toArray, .slice (some ⟨g, 0, none⟩) n n] w (RetOn w g n c R (fun p q => if p = i then ival k * F j q + F i q else F p q) (Kk + K + 1) S) := by
  obtain ⟨x, hx, hxl, hxd⟩ := hR.at hi
  obtain ⟨xj, hxj, hxjl, hxjd⟩ := hR.at hj
  obtain ⟨kn, ⟨kA, km, kc, kl⟩⟩ := k
  refine enter Try.func128 rfl rfl rfl ?_
  have hR0 := hR.n
  repeat' (first | (refine TL.isOp ?_; first | (refine TL.isG ?_; first | refine TL.grun rfl rfl rfl ?_ | refine TL.gskip rfl rfl rfl rfl ?_ | refine TL.gskipU rfl rfl rfl ?_) | (refine TL.isBin ?_; refine TL.cmpG rfl rfl rfl rfl (fun hc => ?_) (fun hc => ?_) <;> (try (first | (exfalso; omega) | exact absurd rfl hc))) | (apply TL.ev; (case hd => rfl); (case h => (first | exact ev_simple rfl | (apply Ev.isBin; first | exact ev_arN rfl rfl rfl (by omega) | exact ev_arI rfl rfl rfl (by omega) | exact ev_eqlB (r := true) rfl rfl rfl | exact ev_eqlB (r := false) rfl rfl rfl | exact ev_neqB (r := true) rfl rfl rfl | exact ev_neqB (r := false) rfl rfl rfl) | (apply Ev.isLoad; first | exact ev_loadFr hF rfl (by refine ⟨?_, ?_⟩; (focus (repeat (first | exact InV.head | apply InV.tail))); rfl) | exact ev_loadAFr hF rfl (by refine ⟨?_, ?_⟩; (focus (repeat (first | exact InV.head | apply InV.tail))); rfl)) | exact ev_len rfl | exact ev_fieldAddr rfl | exact ev_field rfl rfl | exact ev_fieldA rfl rfl | exact ev_buildX rfl rfl | exact ev_makeFunc rfl | exact ev_nilCheck rfl | exact ev_neg rfl (by omega) | exact ev_cap rfl | exact ev_indexN rfl rfl hj (.inr rfl) | exact ev_row hF rfl hxj (by repeat (first | exact InV.head' | apply InV.tail))))) | (refine TL.storeAFr hF rfl rfl rfl rfl (by refine ⟨?_, ?_⟩; (focus (repeat (first | apply SetV.head | apply SetV.tail))); rfl) rfl ?_; clear hF; intro ws hF) | (refine TL.storeFr hF rfl rfl rfl rfl (by refine ⟨?_, ?_⟩; (focus (repeat (first | apply SetV.head | apply SetV.tail))); rfl) rfl ?_; clear hF; intro ws hF) | (refine TL.boxAFr hF (d := 2) (cs := [.int .i64 (i : Int), .int .i64 (j : Int), .bool kn, .slice kA km kc]) rfl rfl ?_; clear hF; intro w2 b2 hF) | (refine TL.boxAFr hF rfl rfl ?_; clear hF; intro wb bb hF) | (refine TL.boxFr hF rfl rfl ?_; clear hF; intro wb bb hF) | (refine TL.allocFr hF rfl rfl ?_; clear hF; intro wa ba hF)) | (refine T.is ?_; first | refine T.seq ?_ | refine T.region ?_ | refine T.block ?_ | refine T.cond_t rfl ?_ | refine T.cond_f rfl ?_ | refine T.exit ?_ | refine T.ret ?_ | refine T.skip ?_ | refine T.regionQ mixed (by kernel_rfl) ?_) | (refine G.is ?_; first | refine G.next ?_ | refine G.blockN ?_ | refine G.blockE ?_ | refine G.blockE' rfl ?_ | refine G.blockR ?_ | refine G.thenE ?_ | refine G.thenR ?_ | refine G.only ?_) | refine TL.nil ?_ | (refine TL.nilFr hF ?_; clear hF; intro wq hF))
  refine T.loop (α := Nat × List IV) (fun z => [(1, .slice (some ⟨g, 0, none⟩) n n), (2, .pointer (some ⟨b2, 0, none⟩)), (10, .slice (some ⟨xj.b, 0, none⟩) c c), (11, .int .i64 (c : Int)), (12, .int .i64 (z.1 : Int))])
    (fun z w' => z.1 ≤ c ∧ z.2.length = c ∧ (∀ p, z.1 ≤ p → z.2.getD p default = x.l.getD p default) ∧ Fr w w' (⟨b2, 97, [.int .i64 (i : Int), .int .i64 (j : Int), .bool kn, .slice kA km kc]⟩ :: lns g c (R.set i ⟨x.b, z.2⟩) []) [dpGI ⟨kn, ⟨kA, km, kc, kl⟩⟩, dpLn n c R F K, dpLK c z.2 (fun q => if q < z.1 then ival ⟨kn, ⟨kA, km, kc, kl⟩⟩ * F j q + F i q else F i q) (Kk + K + 1)] S)
    (fun z => c - z.1) (0, x.l) (by repeat (first | exact Sub.nil _ | refine Sub.cons rfl ?_ | refine Sub.cons' rfl (int_congr (by omega)) ?_)) ⟨Nat.zero_le _, hxl, fun p _ => rfl, ?_⟩ ?_
  · rw [rw_same hx]
    have h := (Fr.ln hF (R := R) (F := F) (K := K) (n := n) (by repeat (first | exact memH | apply memT)) i hi).congrL (Z' := fun q => if q < 0 then ival ⟨kn, ⟨kA, km, kc, kl⟩⟩ * F j q + F i q else F i q) hxd fun q hq => by rw [if_neg (Nat.not_lt_zero _)]
    exact (Fr.addLK hF (h.mono (K' := Kk + K + 1) (by omega))).weak (.refl _) (allH (by repeat (first | exact memH | apply memT)) (allH (by repeat (first | exact memH | apply memT)) (allH (by repeat (first | exact memH | apply memT)) allN)))
  · clear hF
    rintro ⟨q, zl⟩ w2 ⟨hq, hzl, hzx, hF⟩
    dsimp only at hq hzl hzx hF ⊢
    obtain ⟨hR', hx', hb'⟩ := rw_put (l := zl) hR hx hzl
    have hxj' : (R.set i ⟨x.b, zl⟩)[j]? = some xj := by rw [List.getElem?_set_ne hij]; exact hxj
    rcases Nat.lt_or_ge q c with hqn | hqn
    · have hy : zl[q]? = some (zl.getD q default) := by simp [List.getD, show q < zl.length by omega]
      have hyj : xj.l[q]? = some (xj.l.getD q default) := by simp [List.getD, show q < xj.l.length by omega]
      obtain ⟨y, ey⟩ : ∃ y, zl.getD q default = y := ⟨_, rfl⟩
      obtain ⟨yj, eyj⟩ : ∃ y, xj.l.getD q default = y := ⟨_, rfl⟩
      rw [ey] at hy
      rw [eyj] at hyj
      have hky : LI w2.heap (F i q) y ∧ y.m.n ≤ K := by
        have h := (Fr.ln hF (R := R) (F := F) (K := K) (n := n) (by repeat (first | exact memH | apply memT))) i hi q hqn
        rw [hxd, ← hzx q (Nat.le_refl _), ey] at h
        exact h
      have hkyj : LI w2.heap (F j q) yj ∧ yj.m.n ≤ K := by
        have h := (Fr.ln hF (R := R) (F := F) (K := K) (n := n) (by repeat (first | exact memH | apply memT))) j hj q hqn
        rw [hxjd, eyj] at h
        exact h
      replace hF := Fr.addLI (Fr.addLI hF hky.1) hkyj.1
      have hyn := hky.2
      have hyjn := hkyj.2
      clear hky hkyj
      repeat' (first | (refine TL.isOp ?_; first | (refine TL.isG ?_; first | refine TL.grun rfl rfl rfl ?_ | refine TL.gskip rfl rfl rfl rfl ?_ | refine TL.gskipU rfl rfl rfl ?_) | (refine TL.isCall ?_; refine TL.call rfl rfl ?_; first | (refine (zmulAdd_ok _ ⟨kn, ⟨kA, km, kc, kl⟩⟩ yj y (Fr.gi hF (by repeat (first | exact memH | apply memT))) (Fr.li hF (x := yj) (by repeat (first | exact memH | apply memT))).g (Fr.li hF (x := y) (by repeat (first | exact memH | apply memT))).g (by dsimp only at *; omega) (by omega) (by omega)).mono ?_; rintro _ w1 ⟨u, rfl, hLu, hE, hKu⟩; rw [(Fr.li hF (x := y) (by repeat (first | exact memH | apply memT))).val, (Fr.li hF (x := yj) (by repeat (first | exact memH | apply memT))).val] at hLu; replace hF := Fr.addLI (hF.exts hE) hLu; clear hE hLu; refine Back.mk ?_)) | (refine TL.isBin ?_; refine TL.cmpG rfl rfl rfl rfl (fun hc => ?_) (fun hc => ?_) <;> (try (first | (exfalso; omega) | exact absurd rfl hc))) | (apply TL.ev; (case hd => rfl); (case h => (first | exact ev_simple rfl | (apply Ev.isBin; first | exact ev_arN rfl rfl rfl (by omega) | exact ev_arI rfl rfl rfl (by omega) | exact ev_eqlB (r := true) rfl rfl rfl | exact ev_eqlB (r := false) rfl rfl rfl | exact ev_neqB (r := true) rfl rfl rfl | exact ev_neqB (r := false) rfl rfl rfl) | (apply Ev.isLoad; first | exact ev_loadFr hF rfl (by refine ⟨?_, ?_⟩; (focus (repeat (first | exact InV.head | apply InV.tail))); rfl) | exact ev_loadAFr hF rfl (by refine ⟨?_, ?_⟩; (focus (repeat (first | exact InV.head | apply InV.tail))); rfl) | exact ev_loadM rfl (row_sm (r := ⟨x.b, zl⟩) hF hzl (by repeat (first | exact InV.row hx' | apply InV.tail))) hy | exact ev_loadM rfl (row_sm (r := xj) hF hxjl (by repeat (first | exact InV.row hxj' | apply InV.tail))) hyj) | exact ev_len rfl | exact ev_fieldAddr rfl | exact ev_field rfl rfl | exact ev_fieldA rfl rfl | exact ev_buildX rfl rfl | exact ev_makeFunc rfl | exact ev_nilCheck rfl | exact ev_neg rfl (by omega) | exact ev_cap rfl | exact ev_indexM rfl rfl hqn (.inr rfl) | exact ev_indexN rfl rfl hi (.inr rfl) | exact ev_row hF rfl hx' (by repeat (first | exact InV.head' | apply InV.tail))))) | (refine TL.storeAFr hF rfl rfl rfl rfl (by refine ⟨?_, ?_⟩; (focus (repeat (first | apply SetV.head | apply SetV.tail))); rfl) rfl ?_; clear hF; intro ws hF) | (refine TL.storeFr hF rfl rfl rfl rfl (by refine ⟨?_, ?_⟩; (focus (repeat (first | apply SetV.head | apply SetV.tail))); rfl) rfl ?_; clear hF; intro ws hF) | (refine TL.allocFr hF (d := 5) rfl rfl ?_; clear hF; intro w5 b5 hF) | (refine TL.storeAtFr hF (f := ivc) u rfl rfl rfl rfl (fun _ => rfl) (by rw [hzl]; exact hqn) (ivc_noV zl) (by repeat (first | exact SetV.row hx' | apply SetV.tail)) ?_; clear hF; intro ws hF) | (refine TL.boxAFr hF rfl rfl ?_; clear hF; intro wb bb hF) | (refine TL.boxFr hF rfl rfl ?_; clear hF; intro wb bb hF) | (refine TL.allocFr hF rfl rfl ?_; clear hF; intro wa ba hF)) | (refine TF.is ?_; first | refine TF.nil ?_ | refine TF.e rfl ?_ | refine TF.alt ?_ ?_ | (refine TF.pick rfl ?_; first | (refine TFo.cmpG rfl rfl rfl rfl (fun hc => ?_) (fun hc => ?_) <;> (try (first | (exfalso; omega) | exact absurd rfl hc))) | (refine TFo.cmpGg rfl rfl rfl rfl rfl rfl rfl (fun hc => ?_) (fun hc => ?_) <;> (try (first | (exfalso; omega) | exact absurd rfl hc))) | (apply TFo.ev; (case hd => rfl); (case h => (intro wh hF; first | exact ev_simple rfl | (apply Ev.isBin; first | exact ev_arN rfl rfl rfl (by omega) | exact ev_arI rfl rfl rfl (by omega) | exact ev_eqlB (r := true) rfl rfl rfl | exact ev_eqlB (r := false) rfl rfl rfl | exact ev_neqB (r := true) rfl rfl rfl | exact ev_neqB (r := false) rfl rfl rfl) | (apply Ev.isLoad; first | exact ev_loadFr hF rfl (by refine ⟨?_, ?_⟩; (focus (repeat (first | exact InV.head | apply InV.tail))); rfl) | exact ev_loadAFr hF rfl (by refine ⟨?_, ?_⟩; (focus (repeat (first | exact InV.head | apply InV.tail))); rfl) | exact ev_loadM rfl (row_sm (r := ⟨x.b, zl⟩) hF hzl (by repeat (first | exact InV.row hx' | apply InV.tail))) hy | exact ev_loadM rfl (row_sm (r := xj) hF hxjl (by repeat (first | exact InV.row hxj' | apply InV.tail))) hyj) | exact ev_len rfl | exact ev_fieldAddr rfl | exact ev_field rfl rfl | exact ev_fieldA rfl rfl | exact ev_buildX rfl rfl | exact ev_makeFunc rfl | exact ev_nilCheck rfl | exact ev_neg rfl (by omega) | exact ev_cap rfl | exact ev_indexM rfl rfl hqn (.inr rfl) | exact ev_indexN rfl rfl hi (.inr rfl) | exact ev_row hF rfl hx' (by repeat (first | exact InV.head' | apply InV.tail))))) | (apply TFo.evg rfl rfl rfl; (case hd => rfl); (case h => (intro wh hF; first | exact ev_simple rfl | (apply Ev.isBin; first | exact ev_arN rfl rfl rfl (by omega) | exact ev_arI rfl rfl rfl (by omega) | exact ev_eqlB (r := true) rfl rfl rfl | exact ev_eqlB (r := false) rfl rfl rfl | exact ev_neqB (r := true) rfl rfl rfl | exact ev_neqB (r := false) rfl rfl rfl) | (apply Ev.isLoad; first | exact ev_loadFr hF rfl (by refine ⟨?_, ?_⟩; (focus (repeat (first | exact InV.head | apply InV.tail))); rfl) | exact ev_loadAFr hF rfl (by refine ⟨?_, ?_⟩; (focus (repeat (first | exact InV.head | apply InV.tail))); rfl) | exact ev_loadM rfl (row_sm (r := ⟨x.b, zl⟩) hF hzl (by repeat (first | exact InV.row hx' | apply InV.tail))) hy | exact ev_loadM rfl (row_sm (r := xj) hF hxjl (by repeat (first | exact InV.row hxj' | apply InV.tail))) hyj) | exact ev_len rfl | exact ev_fieldAddr rfl | exact ev_field rfl rfl | exact ev_fieldA rfl rfl | exact ev_buildX rfl rfl | exact ev_makeFunc rfl | exact ev_nilCheck rfl | exact ev_neg rfl (by omega) | exact ev_cap rfl | exact ev_indexM rfl rfl hqn (.inr rfl) | exact ev_indexN rfl rfl hi (.inr rfl) | exact ev_row hF rfl hx' (by repeat (first | exact InV.head' | apply InV.tail))))) | refine TFo.skip rfl rfl rfl rfl ?_ | refine TFo.skipU rfl rfl rfl ?_)) | (refine T.is ?_; first | refine T.seq ?_ | refine T.region ?_ | refine T.block ?_ | refine T.cond_t rfl ?_ | refine T.cond_f rfl ?_ | refine T.exit ?_ | refine T.ret ?_ | refine T.skip ?_ | (refine T.regionFr hF 4 19 (.s 0 (.s 1 (.s 2 (.s 3 (.s 4 (.s 5 (.s 6 (.s 7 (.s 8 (.s 9 (.s 10 (.s 11 (.s 12 (.s 13 (.s 14 (.s 15 (.s 16 (.e 17 (.s 18 (.e 19 .nil)))))))))))))))))))) mixed (by kernel_rfl) ?_; clear hF; intro wr hF) | refine T.regionQ mixed (by kernel_rfl) ?_) | (refine G.is ?_; first | refine G.next ?_ | refine G.blockN ?_ | refine G.blockE ?_ | refine G.blockE' rfl ?_ | refine G.blockR ?_ | refine G.thenE ?_ | refine G.thenR ?_ | refine G.only ?_ | refine G.treeEnd rfl ?_ | refine G.tree rfl (by first | exact hF | exact hF.weak (by repeat (first | exact List.Sublist.refl _ | apply List.Sublist.cons)) (by repeat (first | exact allR | apply allT)) | exact hF.weak (by repeat (first | exact List.Sublist.refl _ | apply List.Sublist.cons)) (by repeat (first | exact allN | refine allH (by repeat (first | exact memH | apply memT)) ?_))) ?_) | refine TL.nil ?_ | (refine TL.nilFr hF ?_; clear hF; intro wq hF))
      have hk := (Fr.lk hF (i := c) (l := zl) (Z := fun p => if p < q then ival ⟨kn, ⟨kA, km, kc, kl⟩⟩ * F j p + F i p else F i p) (K := Kk + K + 1) (by repeat (first | exact memH | apply memT))).setAt (Z' := fun p => if p < q + 1 then ival ⟨kn, ⟨kA, km, kc, kl⟩⟩ * F j p + F i p else F i p) (u := u) (q := q) (by omega) (by rw [if_pos (Nat.lt_succ_self _)]; exact Fr.li hF (by repeat (first | exact memH | apply memT))) (by dsimp only at *; omega) (fun p hp => by by_cases h : p < q <;> simp [h, show p < q + 1 ↔ p < q by omega])
      rw [List.set_set] at hF
      exact G.again (q + 1, zl.set q u) (by repeat (first | exact Sub.nil _ | refine Sub.cons rfl ?_ | refine Sub.cons' rfl (int_congr (by omega)) ?_)) ⟨by dsimp only; omega, by rw [List.length_set]; exact hzl, (fun p hp => by rw [getD_set_ne (by omega)]; exact hzx p (by omega)), (Fr.addLK hF hk).weak (.cons _ (.refl _)) (allH (by repeat (first | exact memH | apply memT)) (allH (by repeat (first | exact memH | apply memT)) (allH (by repeat (first | exact memH | apply memT)) allN)))⟩ (by dsimp only; omega)
    · obtain rfl : q = c := by omega
      repeat' (first | (refine TL.isOp ?_; first | (refine TL.isG ?_; first | refine TL.grun rfl rfl rfl ?_ | refine TL.gskip rfl rfl rfl rfl ?_ | refine TL.gskipU rfl rfl rfl ?_) | (refine TL.isBin ?_; refine TL.cmpG rfl rfl rfl rfl (fun hc => ?_) (fun hc => ?_) <;> (try (first | (exfalso; omega) | exact absurd rfl hc))) | (apply TL.ev; (case hd => rfl); (case h => (first | exact ev_simple rfl | (apply Ev.isBin; first | exact ev_arN rfl rfl rfl (by omega) | exact ev_arI rfl rfl rfl (by omega) | exact ev_eqlB (r := true) rfl rfl rfl | exact ev_eqlB (r := false) rfl rfl rfl | exact ev_neqB (r := true) rfl rfl rfl | exact ev_neqB (r := false) rfl rfl rfl) | (apply Ev.isLoad; first | exact ev_loadFr hF rfl (by refine ⟨?_, ?_⟩; (focus (repeat (first | exact InV.head | apply InV.tail))); rfl) | exact ev_loadAFr hF rfl (by refine ⟨?_, ?_⟩; (focus (repeat (first | exact InV.head | apply InV.tail))); rfl)) | exact ev_len rfl | exact ev_fieldAddr rfl | exact ev_field rfl rfl | exact ev_fieldA rfl rfl | exact ev_buildX rfl rfl | exact ev_makeFunc rfl | exact ev_nilCheck rfl | exact ev_neg rfl (by omega) | exact ev_cap rfl))) | (refine TL.storeAFr hF rfl rfl rfl rfl (by refine ⟨?_, ?_⟩; (focus (repeat (first | apply SetV.head | apply SetV.tail))); rfl) rfl ?_; clear hF; intro ws hF) | (refine TL.storeFr hF rfl rfl rfl rfl (by refine ⟨?_, ?_⟩; (focus (repeat (first | apply SetV.head | apply SetV.tail))); rfl) rfl ?_; clear hF; intro ws hF) | (refine TL.boxAFr hF rfl rfl ?_; clear hF; intro wb bb hF) | (refine TL.boxFr hF rfl rfl ?_; clear hF; intro wb bb hF) | (refine TL.allocFr hF rfl rfl ?_; clear hF; intro wa ba hF)) | (refine T.is ?_; first | refine T.seq ?_ | refine T.region ?_ | refine T.block ?_ | refine T.cond_t rfl ?_ | refine T.cond_f rfl ?_ | refine T.exit ?_ | refine T.ret ?_ | refine T.skip ?_ | refine T.regionQ mixed (by kernel_rfl) ?_) | (refine G.is ?_; first | refine G.next ?_ | refine G.blockN ?_ | refine G.blockE ?_ | refine G.blockE' rfl ?_ | refine G.blockR ?_ | refine G.thenE ?_ | refine G.thenR ?_ | refine G.only ?_) | refine TL.nil ?_ | (refine TL.nilFr hF ?_; clear hF; intro wq hF))
      refine G.end0 rfl ⟨rfl, R.set i ⟨x.b, zl⟩, hR', by rw [hb'], ?_⟩
      have hk := ((Fr.ln hF (R := R) (F := F) (K := K) (n := n) (by repeat (first | exact memH | apply memT))).mono (K' := Kk + K + 1) (by omega)).set (i := i) (F' := fun p r => if p = i then ival ⟨kn, ⟨kA, km, kc, kl⟩⟩ * F j r + F i r else F p r) (x := ⟨x.b, zl⟩) (by omega) ((Fr.lk hF (i := q) (l := zl) (by repeat (first | exact memH | apply memT))).congr fun p hp => by simp [hp]) (fun p hp => by funext r; simp [hp])
      exact Fr.addLn (hF.weak (D := []) (.cons _ (.refl _)) allN) hk
theorem perm_set {α : Type} : ∀ (l : List α) (j : Nat) (a b : α), l[j]? = some b → (b :: l.set j a).Perm (a :: l)
  | [], j, a, b, h => by simp at h
  | x :: l, 0, a, b, h => by
    simp at h; subst h
    exact List.Perm.swap a x l
  | x :: l, j + 1, a, b, h => by
    rw [List.getElem?_cons_succ] at h
    rw [List.set_cons_succ]
    exact (List.Perm.swap x b _).trans (((perm_set l j a b h).cons x).trans (List.Perm.swap a x l))
theorem perm_swap {α : Type} : ∀ (l : List α) (i j : Nat) (a b : α), l[i]? = some a → l[j]? = some b → ((l.set i b).set j a).Perm l
  | [], i, j, a, b, h, _ => by simp at h
  | x :: l, 0, 0, a, b, h, h' => by simp at h h'; subst h; subst h'; simp
  | x :: l, 0, j + 1, a, b, h, h' => by
    simp at h; subst h
    rw [List.getElem?_cons_succ] at h'
    rw [List.set_cons_zero, List.set_cons_succ]
    exact perm_set l j x b h'
  | x :: l, i + 1, 0, a, b, h, h' => by
    simp at h'; subst h'
    rw [List.getElem?_cons_succ] at h
    rw [List.set_cons_succ, List.set_cons_zero]
    exact perm_set l i x a h
  | x :: l, i + 1, j + 1, a, b, h, h' => by
    rw [List.getElem?_cons_succ] at h h'
    rw [List.set_cons_succ, List.set_cons_succ]
    exact (perm_swap l i j a b h h').cons x
theorem Fr.perm {S : Nat → Prop} {w0 w : World} {L L' : List VB} {D : List DP} (h : Fr w0 w L D S) (hp : L'.Perm L) : Fr w0 w L' D S :=
  ⟨h.exs, fun v hv => h.vars v (hp.mem_iff.1 hv), (hp.pairwise_iff (fun h => Ne.symm h)).2 h.dist, h.data, fun v hv => h.apart v (hp.mem_iff.1 hv)⟩
theorem putO_one : ∀ (vs : List Value) (i : Nat) (v : Value), i < vs.length → putO vs i [v] = some (vs.set i v)
  | [], i, v, h => by simp at h
  | x :: vs, 0, v, h => by cases vs <;> simp [putO]
  | x :: vs, i + 1, v, h => by
    have := putO_one vs i v (by simpa using h)
    simp [putO, this]
theorem all_set {vs : List Value} {i : Nat} {v : Value} (h : vs.all noU64 = true) (hv : noU64 v = true) : (vs.set i v).all noU64 = true := by
  rw [List.all_eq_true]
  intro u hu
  rcases List.mem_or_eq_of_mem_set hu with h1 | h1
  · exact List.all_eq_true.1 h u h1
  · rw [h1]; exact hv
/-- a slice stored into a place of lines -/
theorem TL.storeRow {P : Program} {N : Fm} {Q : Exit → Act → World → Prop} {σ : Store} {S : Nat → Prop} {w0 w : World} {L L' : List VB} {D : List DP} {ops : Array Oper} {t : TypeId} {pos : String} {af : Array Edge} {rest : List Oper} (hF : Fr w0 w L D S) {x y : Operand} {ty e : TypeId} {z : Value} {b1 : Nat} [hS : USize P ty z 1 b1] {g i : Nat} {vs : List Value} {v : Value}
    (hx : Eng.look σ x = some (.pointer (elemA (some ⟨g, 0, none⟩) i))) (hy : Eng.look σ y = some v) (hvs : v.cells.toList = [v]) (h1 : v.oneCell' = true) (hi : i < vs.length) (hn : vs.all noU64 = true) (hL : SetV L g e vs (vs.set i v) L')
    (K : ∀ w', Fr w0 w' L' D S → TL P N .seq ops Q rest σ w') : TL P N .seq ops Q (⟨none, .store ty x y, t, pos, af, none⟩ :: rest) σ w := by
  refine TL.storeFr hF (b := g) (o := i) (by rw [hx]; simp [elemA, add_mk]) hy hvs h1 ⟨hL, ?_⟩ hn K
  exact putO_one vs i v hi
set_option maxRecDepth 100000 in
set_option maxHeartbeats 8000000 in
theorem swap_on (w : World) (g n c i j K : Nat) (R : List RB) (F : Nat → Nat → Int) (S : Nat → Prop) (hR : Rws n c R) (hi : i < n) (hj : j < n) (hF : Fr w w (lns g c R []) [dpLn n c R F K] S) :
    Cl Try.prog 132 #[.agg #[.int .i64 (i : Int), .int .i64 (j : Int)], .slice (some ⟨g, 0, none⟩) n n] w (RetOn w g n c R (fun p q => F (if p = j then i else if p = i then j else p) q) K S) := by
  obtain ⟨x, hx, hxl, hxd⟩ := hR.at hi
  obtain ⟨xj, hxj, hxjl, hxjd⟩ := hR.at hj
  have hlen : (R.flatMap (fun x => [rowv c x])).length = n := by rw [flat_one, List.length_map]; exact hR.n
  have hno : (R.flatMap (fun x => [rowv c x])).all noU64 = true := by
    rw [List.all_eq_true]
    intro v hv
    obtain ⟨y, _, hy⟩ := List.mem_flatMap.1 hv
    rw [List.mem_singleton.1 hy]; rfl
  refine enter Try.func132 rfl rfl rfl ?_
  unfold lns at hF
  repeat' (first | (refine TL.isOp ?_; first | (refine TL.isG ?_; first | refine TL.grun rfl rfl rfl ?_ | refine TL.gskip rfl rfl rfl rfl ?_ | refine TL.gskipU rfl rfl rfl ?_) | (refine TL.isBin ?_; refine TL.cmpG rfl rfl rfl rfl (fun hc => ?_) (fun hc => ?_) <;> (try (first | (exfalso; omega) | exact absurd rfl hc))) | (apply TL.ev; (case hd => rfl); (case h => (first | exact ev_simple rfl | (apply Ev.isBin; first | exact ev_arN rfl rfl rfl (by omega) | exact ev_arI rfl rfl rfl (by omega) | exact ev_eqlB (r := true) rfl rfl rfl | exact ev_eqlB (r := false) rfl rfl rfl | exact ev_neqB (r := true) rfl rfl rfl | exact ev_neqB (r := false) rfl rfl rfl) | (apply Ev.isLoad; first | exact ev_loadFr hF rfl (by refine ⟨?_, ?_⟩; (focus (repeat (first | exact InV.head | apply InV.tail))); rfl) | exact ev_loadAFr hF rfl (by refine ⟨?_, ?_⟩; (focus (repeat (first | exact InV.head | apply InV.tail))); rfl)) | exact ev_len rfl | exact ev_fieldAddr rfl | exact ev_field rfl rfl | exact ev_fieldA rfl rfl | exact ev_buildX rfl rfl | exact ev_makeFunc rfl | exact ev_nilCheck rfl | exact ev_neg rfl (by omega) | exact ev_cap rfl | exact ev_indexN rfl rfl hi (.inr rfl) | exact ev_indexN rfl rfl hj (.inr rfl) | exact ev_row hF rfl hx (by repeat (first | exact InV.head | apply InV.tail)) | exact ev_row hF rfl hxj (by repeat (first | exact InV.head | apply InV.tail))))) | (refine TL.storeAFr hF rfl rfl rfl rfl (by refine ⟨?_, ?_⟩; (focus (repeat (first | apply SetV.head | apply SetV.tail))); rfl) rfl ?_; clear hF; intro ws hF) | (refine TL.storeFr hF rfl rfl rfl rfl (by refine ⟨?_, ?_⟩; (focus (repeat (first | apply SetV.head | apply SetV.tail))); rfl) rfl ?_; clear hF; intro ws hF) | (refine TL.boxAFr hF (d := 2) (cs := [.int .i64 (i : Int), .int .i64 (j : Int)]) rfl rfl ?_; clear hF; intro w2 b2 hF) | (refine TL.storeRow hF (i := i) (vs := R.flatMap (fun x => [rowv c x])) (v := rowv c xj) rfl rfl rfl rfl (by omega) hno (by repeat (first | apply SetV.head | apply SetV.tail)) ?_; clear hF; intro ws hF) | (refine TL.storeRow hF (i := j) (vs := (R.flatMap (fun x => [rowv c x])).set i (rowv c xj)) (v := rowv c x) rfl rfl rfl rfl (by rw [List.length_set]; omega) (all_set hno rfl) (by repeat (first | apply SetV.head | apply SetV.tail)) ?_; clear hF; intro ws hF) | (refine TL.boxAFr hF rfl rfl ?_; clear hF; intro wb bb hF) | (refine TL.boxFr hF rfl rfl ?_; clear hF; intro wb bb hF) | (refine TL.allocFr hF rfl rfl ?_; clear hF; intro wa ba hF)) | (refine TF.is ?_; first | refine TF.nil ?_ | refine TF.e rfl ?_ | refine TF.alt ?_ ?_ | (refine TF.pick rfl ?_; first | (refine TFo.cmpG rfl rfl rfl rfl (fun hc => ?_) (fun hc => ?_) <;> (try (first | (exfalso; omega) | exact absurd rfl hc))) | (refine TFo.cmpGg rfl rfl rfl rfl rfl rfl rfl (fun hc => ?_) (fun hc => ?_) <;> (try (first | (exfalso; omega) | exact absurd rfl hc))) | (apply TFo.ev; (case hd => rfl); (case h => (intro wh hF; first | exact ev_simple rfl | (apply Ev.isBin; first | exact ev_arN rfl rfl rfl (by omega) | exact ev_arI rfl rfl rfl (by omega) | exact ev_eqlB (r := true) rfl rfl rfl | exact ev_eqlB (r := false) rfl rfl rfl | exact ev_neqB (r := true) rfl rfl rfl | exact ev_neqB (r := false) rfl rfl rfl) | (apply Ev.isLoad; first | exact ev_loadFr hF rfl (by refine ⟨?_, ?_⟩; (focus (repeat (first | exact InV.head | apply InV.tail))); rfl) | exact ev_loadAFr hF rfl (by refine ⟨?_, ?_⟩; (focus (repeat (first | exact InV.head | apply InV.tail))); rfl)) | exact ev_len rfl | exact ev_fieldAddr rfl | exact ev_field rfl rfl | exact ev_fieldA rfl rfl | exact ev_buildX rfl rfl | exact ev_makeFunc rfl | exact ev_nilCheck rfl | exact ev_neg rfl (by omega) | exact ev_cap rfl | exact ev_indexN rfl rfl hi (.inr rfl) | exact ev_indexN rfl rfl hj (.inr rfl) | exact ev_row hF rfl hx (by repeat (first | exact InV.head | apply InV.tail)) | exact ev_row hF rfl hxj (by repeat (first | exact InV.head | apply InV.tail))))) | (apply TFo.evg rfl rfl rfl; (case hd => rfl); (case h => (intro wh hF; first | exact ev_simple rfl | (apply Ev.isBin; first | exact ev_arN rfl rfl rfl (by omega) | exact ev_arI rfl rfl rfl (by omega) | exact ev_eqlB (r := true) rfl rfl rfl | exact ev_eqlB (r := false) rfl rfl rfl | exact ev_neqB (r := true) rfl rfl rfl | exact ev_neqB (r := false) rfl rfl rfl) | (apply Ev.isLoad; first | exact ev_loadFr hF rfl (by refine ⟨?_, ?_⟩; (focus (repeat (first | exact InV.head | apply InV.tail))); rfl) | exact ev_loadAFr hF rfl (by refine ⟨?_, ?_⟩; (focus (repeat (first | exact InV.head | apply InV.tail))); rfl)) | exact ev_len rfl | exact ev_fieldAddr rfl | exact ev_field rfl rfl | exact ev_fieldA rfl rfl | exact ev_buildX rfl rfl | exact ev_makeFunc rfl | exact ev_nilCheck rfl | exact ev_neg rfl (by omega) | exact ev_cap rfl | exact ev_indexN rfl rfl hi (.inr rfl) | exact ev_indexN rfl rfl hj (.inr rfl) | exact ev_row hF rfl hx (by repeat (first | exact InV.head | apply InV.tail)) | exact ev_row hF rfl hxj (by repeat (first | exact InV.head | apply InV.tail))))) | refine TFo.skip rfl rfl rfl rfl ?_ | refine TFo.skipU rfl rfl rfl ?_)) | (refine T.is ?_; first | refine T.seq ?_ | refine T.region ?_ | refine T.block ?_ | refine T.cond_t rfl ?_ | refine T.cond_f rfl ?_ | refine T.exit ?_ | refine T.ret ?_ | refine T.skip ?_ | (refine T.regionFt hF.swap 1 19 (.s 0 (.s 1 (.s 2 (.s 3 (.s 4 (.s 5 (.s 6 (.s 7 (.s 8 (.s 9 (.s 11 (.s 12 (.s 13 (.s 14 (.alt (.e 10 (.e 15 (.s 16 (.e 17 (.s 18 (.e 19 .nil)))))) (.e 15 (.e 10 (.s 16 (.e 17 (.s 18 (.e 19 .nil))))))))))))))))))))) mixed (by kernel_rfl) ?_; clear hF; intro wr hF) | refine T.regionQ mixed (by kernel_rfl) ?_) | (refine G.is ?_; first | refine G.next ?_ | refine G.blockN ?_ | refine G.blockE ?_ | refine G.blockE' rfl ?_ | refine G.blockR ?_ | refine G.thenE ?_ | refine G.thenR ?_ | refine G.only ?_ | refine G.treeEnd rfl ?_ | refine G.tree rfl (by first | exact hF | exact hF.weak (by repeat (first | exact List.Sublist.refl _ | apply List.Sublist.cons)) (by repeat (first | exact allR | apply allT)) | exact hF.weak (by repeat (first | exact List.Sublist.refl _ | apply List.Sublist.cons)) (by repeat (first | exact allN | refine allH (by repeat (first | exact memH | apply memT)) ?_))) ?_) | refine TL.nil ?_ | (refine TL.nilFr hF ?_; clear hF; intro wq hF))
  all_goals
    have hk : LsR n c ((R.set i xj).set j x) (fun p q => F (if p = j then i else if p = i then j else p) q) K ws.heap := by
      have h0 := Fr.ln hF (R := R) (F := F) (K := K) (n := n) (by repeat (first | exact memH | apply memT))
      have hli : i < R.length := by rw [hR.n]; exact hi
      have hlj : j < R.length := by rw [hR.n]; exact hj
      intro p hp
      by_cases h1 : p = j
      · subst h1
        have e1 : ((R.set i xj).set p x).getD p default = x := by simp [List.getD, hlj]
        rw [e1, ← hxd]
        simp only [if_true]
        exact h0 i hi
      · rw [getD_set_ne h1]
        by_cases h2 : p = i
        · subst h2
          have e1 : (R.set p xj).getD p default = xj := by simp [List.getD, hli]
          rw [e1, ← hxjd]
          simp only [if_neg h1, if_true]
          exact h0 j hj
        · rw [getD_set_ne h2]
          simp only [if_neg h1, if_neg h2]
          exact h0 p hp
    refine G.end0 rfl ⟨rfl, (R.set i xj).set j x, (hR.set hxjl).set hxl, (perm_swap R i j x xj hx hxj).map (·.b), ?_⟩
    have hP := (perm_swap R i j x xj hx hxj).map rowVB
    have e : ((R.set i xj).set j x).flatMap (fun x => [rowv c x]) = ((R.flatMap (fun x => [rowv c x])).set i (rowv c xj)).set j (rowv c x) := by rw [flat_one, flat_one, List.map_set, List.map_set]
    refine Fr.addLn (Fr.perm (hF.weak (D := []) (.cons_cons _ (.cons _ (.refl _))) allN) ?_) hk
    unfold lns
    rw [e]
    exact (hP.append_right []).cons _
end Go.Proofs.Ytdhmhjbmkimplaa
