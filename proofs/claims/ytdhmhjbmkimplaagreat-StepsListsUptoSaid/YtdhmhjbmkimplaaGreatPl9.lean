/- Layer 11: lines under work: rows of integers, each in a block of its own; the moves on them. Layer 11: steps as values, their moves, Check. Layer 11: lines of a matrix; a matrix of lines; Check. Layer 11: linesOf and matrix. Layer 11: a step done on lines, through its move; the matrix of lines; Check. -/
import Derived.Test.YtdhmhjbmkimplaaGreatPl8
set_option linter.unusedVariables false
set_option linter.unusedSimpArgs false
namespace Go.Proofs.YtdhmhjbmkimplaaGreat
open Go Go.Eng Go.Proofs Go.NatM Go.RowKit

/-- a row in a block of its own -/
structure RB where
  b : Nat
  l : List IV
instance : Inhabited RB := ⟨⟨0, []⟩⟩
def rowv (c : Nat) (x : RB) : Value := .slice (some ⟨x.b, 0, none⟩) c c
def rowVB (x : RB) : VB := ⟨x.b, 51, x.l.flatMap ivc⟩
/-- the blocks of lines -/
def lns (g c : Nat) (R : List RB) (post : List VB) : List VB := ⟨g, 22, R.flatMap (fun x => [rowv c x])⟩ :: (R.map rowVB ++ post)
/-- the numbers of lines -/
def LsR (n c : Nat) (R : List RB) (F : Nat → Nat → Int) (K : Nat) (H : Array Obj) : Prop := ∀ i, i < n → LsK c (R.getD i default).l (F i) K H
def dpLn (n c : Nat) (R : List RB) (F : Nat → Nat → Int) (K : Nat) : DP := ⟨LsR n c R F K, fun _ => False, fun _ _ _ h => h.elim, fun _ _ hd h i hi q hq => ⟨(h i hi q hq).1.de hd, (h i hi q hq).2⟩⟩
/-- rows of one length -/
structure Rws (n c : Nat) (R : List RB) : Prop where
  n : R.length = n
  c : ∀ x ∈ R, x.l.length = c
theorem Rws.at {n c i : Nat} {R : List RB} (h : Rws n c R) (hi : i < n) : ∃ x, R[i]? = some x ∧ x.l.length = c ∧ R.getD i default = x := by
  have hl : i < R.length := by rw [h.n]; exact hi
  exact ⟨R[i], List.getElem?_eq_getElem hl, h.c _ (List.getElem_mem hl), by simp [List.getD, hl]⟩
theorem Rws.set {n c i : Nat} {R : List RB} {x : RB} (h : Rws n c R) (hx : x.l.length = c) : Rws n c (R.set i x) :=
  ⟨by rw [List.length_set]; exact h.n, fun y hy => by
    rcases List.mem_or_eq_of_mem_set hy with h1 | h1
    · exact h.c y h1
    · rw [h1]; exact hx⟩
section
variable {S : Nat → Prop} {w0 w w' : World} {L : List VB} {D : List DP}
theorem Fr.addLn (h : Fr w0 w L D S) {n c : Nat} {R : List RB} {F : Nat → Nat → Int} {K : Nat} (k : LsR n c R F K w.heap) : Fr w0 w L (dpLn n c R F K :: D) S := h.add _ k fun _ _ h => h
theorem Fr.ln (h : Fr w0 w L D S) {n c : Nat} {R : List RB} {F : Nat → Nat → Int} {K : Nat} (hm : dpLn n c R F K ∈ D) : LsR n c R F K w.heap := h.data _ hm
end
attribute [irreducible] dpLn

theorem LsK.setAt {H : Array Obj} {c : Nat} {l : List IV} {Z Z' : Nat → Int} {q K : Nat} {u : IV} (h : LsK c l Z K H) (hq : q < l.length) (hu : LI H (Z' q) u) (hn : u.m.n ≤ K) (e : ∀ p, p ≠ q → Z' p = Z p) : LsK c (l.set q u) Z' K H := by
  intro p hp
  by_cases hpq : p = q
  · subst hpq
    have e1 : (l.set p u).getD p default = u := by simp [List.getD, hq]
    rw [e1]; exact ⟨hu, hn⟩
  · have e1 : (l.set q u).getD p default = l.getD p default := by simp [List.getD, List.getElem?_set_ne (fun h => hpq h.symm)]
    rw [e1, e p hpq]; exact h p hp
theorem LsK.mono {H : Array Obj} {c K K' : Nat} {l : List IV} {Z : Nat → Int} (h : LsK c l Z K H) (hK : K ≤ K') : LsK c l Z K' H := fun q hq => ⟨(h q hq).1, Nat.le_trans (h q hq).2 hK⟩
theorem LsK.congr {H : Array Obj} {c K : Nat} {l : List IV} {Z Z' : Nat → Int} (h : LsK c l Z K H) (e : ∀ q, q < c → Z q = Z' q) : LsK c l Z' K H := fun q hq => by rw [← e q hq]; exact h q hq
theorem LsR.set {H : Array Obj} {n c K i : Nat} {R : List RB} {F F' : Nat → Nat → Int} {x : RB} (h : LsR n c R F K H) (hi : i < R.length) (hx : LsK c x.l (F' i) K H) (e : ∀ p, p ≠ i → F' p = F p) : LsR n c (R.set i x) F' K H := by
  intro p hp
  by_cases hpi : p = i
  · subst hpi
    have e1 : (R.set p x).getD p default = x := by simp [List.getD, hi]
    rw [e1]; exact hx
  · have e1 : (R.set i x).getD p default = R.getD p default := by simp [List.getD, List.getElem?_set_ne (fun h => hpi h.symm)]
    rw [e1, e p hpi]; exact h p hp
theorem LsR.mono {H : Array Obj} {n c K K' : Nat} {R : List RB} {F : Nat → Nat → Int} (h : LsR n c R F K H) (hK : K ≤ K') : LsR n c R F K' H := fun i hi => (h i hi).mono hK
section
variable {P : Program} {σ : Store} {d : Option Tmp} {t : TypeId} {pos : String} {af : Array Edge} {gd : Option (Nat × Bool)} {S : Nat → Prop} {w0 w : World} {L : List VB} {D : List DP}
theorem flat_one {α : Type} (f : α → Value) (l : List α) : l.flatMap (fun x => [f x]) = l.map f := by
  induction l with
  | nil => rfl
  | cons x l ih => rw [List.flatMap_cons, ih]; rfl
theorem ev_row (hF : Fr w0 w L D S) {x : Operand} {ty e : TypeId} [hO : UOne P ty] {g c i : Nat} {R : List RB} {r : RB} (hx : Eng.look σ x = some (.pointer (elemA (some ⟨g, 0, none⟩) i))) (hR : R[i]? = some r) (hV : InV L g e (R.flatMap (fun x => [rowv c x]))) : Ev P σ w.heap ⟨d, .load ty x, t, pos, af, gd⟩ (.slice (some ⟨r.b, 0, none⟩) c c) := by
  refine ev_loadV (b := g) (o := i) (by rw [hx]; simp [elemA, add_mk]) (hF.var hV) ?_
  rw [nthV_eq, flat_one, List.getElem?_map, hR]; rfl
theorem row_sm (hF : Fr w0 w L D S) {c : Nat} {r : RB} (hc : r.l.length = c) (hV : InV L r.b 51 (r.l.flatMap ivc)) : Sm 2 ivc w.heap w.heap.size (some ⟨r.b, 0, none⟩) c c r.l :=
  vr_sm (zs := []) (by omega) (fun _ _ => rfl) (by rw [List.append_nil]; exact hF.var hV) hc (Nat.le_refl _) (hF.var hV).lt
end
theorem InV.row {g c i : Nat} {R : List RB} {post : List VB} {x : RB} (hi : R[i]? = some x) : InV (lns g c R post) x.b 51 (x.l.flatMap ivc) := .tail (InV.map hi rfl)
theorem SetV.row {g c i q : Nat} {R : List RB} {post : List VB} {x : RB} {u : IV} (hi : R[i]? = some x) : SetV (lns g c R post) x.b 51 (x.l.flatMap ivc) ((x.l.set q u).flatMap ivc) (lns g c (R.set i ⟨x.b, x.l.set q u⟩) post) := by
  have h1 : (R.set i ⟨x.b, x.l.set q u⟩).flatMap (fun y => [rowv c y]) = R.flatMap (fun y => [rowv c y]) := by
    rw [flat_one, flat_one, List.map_set]
    apply List.ext_getElem?
    intro p
    rw [List.getElem?_set]
    split
    · rename_i hp
      subst hp
      split
      · rw [List.getElem?_map, hi]; rfl
      · rename_i hl
        rw [List.getElem?_eq_none (by simpa using hl)]
    · rfl
  unfold lns
  rw [h1]
  exact .tail (SetV.map (y := ⟨x.b, x.l.set q u⟩) hi rfl rfl)
theorem InV.head' {g c : Nat} {R : List RB} {post : List VB} : InV (lns g c R post) g 22 (R.flatMap (fun x => [rowv c x])) := .head
/-- what a move leaves -/
def RetOn (w : World) (g n c : Nat) (R : List RB) (F : Nat → Nat → Int) (K : Nat) (S : Nat → Prop) (e : Ending) (w' : World) : Prop :=
  e = .returned (.tuple #[]) ∧ ∃ R', Rws n c R' ∧ (R'.map (·.b)).Perm (R.map (·.b)) ∧ Fr w w' (lns g c R' []) [dpLn n c R' F K] S
theorem rw_put {n c i : Nat} {R : List RB} {x : RB} {l : List IV} (h : Rws n c R) (hi : R[i]? = some x) (hl : l.length = c) : Rws n c (R.set i ⟨x.b, l⟩) ∧ (R.set i ⟨x.b, l⟩)[i]? = some ⟨x.b, l⟩ ∧ ((R.set i ⟨x.b, l⟩).map (·.b)) = R.map (·.b) := by
  have hlt := (List.getElem?_eq_some_iff.1 hi).1
  refine ⟨h.set hl, by rw [List.getElem?_set, if_pos rfl, if_pos hlt], ?_⟩
  rw [List.map_set]
  apply List.ext_getElem?
  intro p
  rw [List.getElem?_set]
  split
  · rename_i hp
    subst hp
    rw [if_pos (by simpa using hlt), List.getElem?_map, hi]; rfl
  · rfl
theorem getD_set_ne {α : Type} [Inhabited α] {l : List α} {i q : Nat} {x : α} (h : q ≠ i) : (l.set i x).getD q default = l.getD q default := by simp [List.getD, List.getElem?_set_ne (Ne.symm h)]
theorem rw_same {i : Nat} {R : List RB} {x : RB} (hi : R[i]? = some x) : R.set i ⟨x.b, x.l⟩ = R := by
  apply List.ext_getElem?
  intro p
  rw [List.getElem?_set]
  split
  · rename_i hp
    subst hp
    rw [hi, if_pos (List.getElem?_eq_some_iff.1 hi).1]
  · rfl
theorem LsK.congrL {H : Array Obj} {c K : Nat} {Z Z' : Nat → Int} {x y : RB} (h : LsK c x.l Z K H) (hxy : x = y) (e : ∀ q, q < c → Z' q = Z q) : LsK c y.l Z' K H := by
  subst hxy
  exact fun q hq => by rw [e q hq]; exact h q hq
theorem Fr.flip2 {S : Nat → Prop} {w0 w : World} {L : List VB} {a b : DP} (h : Fr w0 w L [a, b] S) : Fr w0 w L [b, a] S := h.weak (List.Sublist.refl _) (allH (by repeat (first | exact memH | apply memT)) (allH (by repeat (first | exact memH | apply memT)) allN))
theorem zneg_ok (w : World) (x : IV) (gx : GI w.heap x) (hx : x.m.n ≤ 8796093022000) : Cl Tryz.prog 73 #[.agg (ivc x).toArray] w (RetZ w (- ival x) x.m.n) := by
  have hs := gx.s
  have hu := gx.u
  obtain ⟨neg, ⟨A, n, c, l⟩⟩ := x
  have hn : n ≤ 35184372088832 := by dsimp only at hx; omega
  have e : - ival ⟨neg, ⟨A, n, c, l⟩⟩ = sgn (!neg) (val l) := by unfold ival sgn; cases neg <;> simp
  rw [e]
  dsimp only at hs hu
  cases neg
  · refine enter Tryz.func73 rfl rfl rfl ?_
    have hF := Fr.refl w
    repeat' (first | (refine TL.isOp ?_; first | (refine TL.isCall ?_; refine TL.call rfl rfl ?_; first | (refine (least_ok _ _ _ _ _ _ (hs.ext hF.ext) hu hn).mono ?_; rintro _ wl ⟨Al, nl, cl, rfl, hOl, hEl, hKl⟩; have hSl := hOl.sl (Nat.le_refl _); replace hF := Fr.addSl (hF.exts hEl) hSl; clear hOl hEl; refine Back.mk ?_) | (refine (of_ok _ _ _ _ _ _ (Fr.sl hF (by repeat (first | exact memH | apply memT)))).mono ?_; rintro _ wo ⟨rfl, hLo, hEo⟩; replace hF := Fr.addLI (hF.exts hEo) hLo; clear hLo hEo; refine Back.mk ?_)) | (refine TL.storeAFr hF rfl rfl rfl rfl (by refine ⟨?_, ?_⟩; (focus (repeat (first | apply SetV.head | apply SetV.tail))); rfl) rfl ?_; clear hF; intro ws hF) | (refine TL.boxAFr hF (d := 1) (cs := [.bool false, .slice A n c]) rfl rfl ?_; clear hF; intro w1 b1 hF) | (refine TL.allocFr hF (d := 2) rfl rfl ?_; clear hF; intro w2 b2 hF)) | (refine TF.is ?_; first | refine TF.nil ?_ | refine TF.e rfl ?_ | (refine TF.pick rfl ?_; first | (apply TFo.ev; (case hd => rfl); (case h => (intro wh hF; first | exact ev_simple rfl | (apply Ev.isLoad; first | exact ev_loadFr hF rfl (by refine ⟨?_, ?_⟩; (focus (repeat (first | exact InV.head | apply InV.tail))); rfl)) | exact ev_fieldAddr rfl))))) | (refine T.is ?_; first | refine T.seq ?_ | refine T.region ?_ | refine T.ret ?_ | (refine T.regionFr hF 1 7 (.s 0 (.s 1 (.s 2 (.s 3 (.s 4 (.e 5 (.e 6 (.e 7 .nil)))))))) mixed (by kernel_rfl) ?_; clear hF; intro wr hF)) | (refine G.is ?_; first | refine G.next ?_ | refine G.only ?_ | refine G.treeEnd rfl ?_ | refine G.tree rfl (by first | exact hF | exact hF.weak (by repeat (first | exact List.Sublist.refl _ | apply List.Sublist.cons)) (by repeat (first | exact allR | apply allT)) | exact hF.weak (by repeat (first | exact List.Sublist.refl _ | apply List.Sublist.cons)) (by repeat (first | exact allN | refine allH (by repeat (first | exact memH | apply memT)) ?_))) ?_) | refine TL.nil ?_)
    exact G.retC1 rfl rfl (held_agg (hF.var (by repeat (first | exact InV.head | apply InV.tail))) rfl) ⟨_, rfl, Fr.li hF (by repeat (first | exact memH | apply memT)), hF.ext, hKl⟩
  · refine enter Tryz.func73 rfl rfl rfl ?_
    have hF := Fr.refl w
    repeat' (first | (refine TL.isOp ?_; first | (refine TL.isCall ?_; refine TL.call rfl rfl ?_; first | (refine (least_ok _ _ _ _ _ _ (hs.ext hF.ext) hu hn).mono ?_; rintro _ wl ⟨Al, nl, cl, rfl, hOl, hEl, hKl⟩; have hSl := hOl.sl (Nat.le_refl _); replace hF := Fr.addSl (hF.exts hEl) hSl; clear hOl hEl; refine Back.mk ?_) | (refine (of_ok _ _ _ _ _ _ (Fr.sl hF (by repeat (first | exact memH | apply memT)))).mono ?_; rintro _ wo ⟨rfl, hLo, hEo⟩; replace hF := Fr.addLI (hF.exts hEo) hLo; clear hLo hEo; refine Back.mk ?_)) | (refine TL.storeAFr hF rfl rfl rfl rfl (by refine ⟨?_, ?_⟩; (focus (repeat (first | apply SetV.head | apply SetV.tail))); rfl) rfl ?_; clear hF; intro ws hF) | (refine TL.boxAFr hF (d := 1) (cs := [.bool true, .slice A n c]) rfl rfl ?_; clear hF; intro w1 b1 hF) | (refine TL.allocFr hF (d := 2) rfl rfl ?_; clear hF; intro w2 b2 hF)) | (refine TF.is ?_; first | refine TF.nil ?_ | refine TF.e rfl ?_ | (refine TF.pick rfl ?_; first | (apply TFo.ev; (case hd => rfl); (case h => (intro wh hF; first | exact ev_simple rfl | (apply Ev.isLoad; first | exact ev_loadFr hF rfl (by refine ⟨?_, ?_⟩; (focus (repeat (first | exact InV.head | apply InV.tail))); rfl)) | exact ev_fieldAddr rfl))))) | (refine T.is ?_; first | refine T.seq ?_ | refine T.region ?_ | refine T.ret ?_ | (refine T.regionFr hF 1 7 (.s 0 (.s 1 (.s 2 (.s 3 (.s 4 (.e 5 (.e 6 (.e 7 .nil)))))))) mixed (by kernel_rfl) ?_; clear hF; intro wr hF)) | (refine G.is ?_; first | refine G.next ?_ | refine G.only ?_ | refine G.treeEnd rfl ?_ | refine G.tree rfl (by first | exact hF | exact hF.weak (by repeat (first | exact List.Sublist.refl _ | apply List.Sublist.cons)) (by repeat (first | exact allR | apply allT)) | exact hF.weak (by repeat (first | exact List.Sublist.refl _ | apply List.Sublist.cons)) (by repeat (first | exact allN | refine allH (by repeat (first | exact memH | apply memT)) ?_))) ?_) | refine TL.nil ?_)
    exact G.retC1 rfl rfl (held_agg (hF.var (by repeat (first | exact InV.head | apply InV.tail))) rfl) ⟨_, rfl, Fr.li hF (by repeat (first | exact memH | apply memT)), hF.ext, hKl⟩
set_option maxRecDepth 100000 in
set_option maxHeartbeats 8000000 in
theorem neg_on (w : World) (g n c i K : Nat) (R : List RB) (F : Nat → Nat → Int) (S : Nat → Prop) (hR : Rws n c R) (hi : i < n) (hc : c ≤ 64) (hK : K ≤ 8796093022000) (hF : Fr w w (lns g c R []) [dpLn n c R F K] S) :
    Cl Tryz.prog 209 #[.agg #[.int .i64 (i : Int)], .slice (some ⟨g, 0, none⟩) n n] w (RetOn w g n c R (fun p q => if p = i then - F i q else F p q) K S) := by
  obtain ⟨x, hx, hxl, hxd⟩ := hR.at hi
  refine enter Tryz.func209 rfl rfl rfl ?_
  have hR0 := hR.n
  repeat' (first | (refine TL.isOp ?_; first | (apply TL.ev; (case hd => rfl); (case h => (first | exact ev_simple rfl | (apply Ev.isLoad; first | exact ev_loadFr hF rfl (by refine ⟨?_, ?_⟩; (focus (repeat (first | exact InV.head | apply InV.tail))); rfl)) | exact ev_len rfl | exact ev_fieldAddr rfl | exact ev_indexN rfl rfl hi (.inr rfl) | exact ev_row hF rfl hx (by repeat (first | exact InV.head | apply InV.tail))))) | (refine TL.boxAFr hF (d := 2) (cs := [.int .i64 (i : Int)]) rfl rfl ?_; clear hF; intro w2 b2 hF)) | (refine T.is ?_; first | refine T.seq ?_ | refine T.region ?_ | refine T.block ?_) | (refine G.is ?_; first | refine G.next ?_) | refine TL.nil ?_)
  refine T.loop (α := Nat × List IV) (fun z => [(1, .slice (some ⟨g, 0, none⟩) n n), (2, .pointer (some ⟨b2, 0, none⟩)), (10, .slice (some ⟨x.b, 0, none⟩) c c), (11, .int .i64 (c : Int)), (12, .int .i64 (z.1 : Int))])
    (fun z w' => z.1 ≤ c ∧ z.2.length = c ∧ Fr w w' (⟨b2, 127, [.int .i64 (i : Int)]⟩ :: lns g c (R.set i ⟨x.b, z.2⟩) []) [dpLn n c R F K, dpLK c z.2 (fun q => if q < z.1 then - F i q else F i q) K] S)
    (fun z => c - z.1) (0, x.l) (by repeat (first | exact Sub.nil _ | refine Sub.cons rfl ?_ | refine Sub.cons' rfl (int_congr (by omega)) ?_)) ⟨Nat.zero_le _, hxl, ?_⟩ ?_
  · rw [rw_same hx]
    exact Fr.flip2 (Fr.addLK hF ((Fr.ln hF (R := R) (F := F) (K := K) (n := n) (by repeat (first | exact memH | apply memT)) i hi).congrL (Z' := fun q => if q < 0 then - F i q else F i q) hxd fun q hq => by rw [if_neg (Nat.not_lt_zero _)]))
  · clear hF
    rintro ⟨q, zl⟩ w2 ⟨hq, hzl, hF⟩
    dsimp only at hq hzl hF ⊢
    obtain ⟨hR', hx', hb'⟩ := rw_put (l := zl) hR hx hzl
    rcases Nat.lt_or_ge q c with hqn | hqn
    · have hy : zl[q]? = some (zl.getD q default) := by simp [List.getD, show q < zl.length by omega]
      obtain ⟨y, ey⟩ : ∃ y, zl.getD q default = y := ⟨_, rfl⟩
      rw [ey] at hy
      have hky : LI w2.heap (F i q) y ∧ y.m.n ≤ K := by
        have h := (Fr.lk hF (i := c) (l := zl) (Z := fun p => if p < q then - F i p else F i p) (K := K) (by repeat (first | exact memH | apply memT))) q hqn
        rw [ey] at h
        dsimp only at h
        rwa [if_neg (Nat.lt_irrefl _)] at h
      replace hF := Fr.addLI hF hky.1
      have hkn := hky.2
      clear hky
      repeat' (first | (refine TL.isOp ?_; first | (refine TL.isCall ?_; refine TL.call rfl rfl ?_; first | (refine (zneg_ok _ y (Fr.li hF (x := y) (by repeat (first | exact memH | apply memT))).g (by omega)).mono ?_; rintro _ w1 ⟨u, rfl, hLu, hE, hKu⟩; rw [(Fr.li hF (x := y) (by repeat (first | exact memH | apply memT))).val] at hLu; replace hF := Fr.addLI (hF.exts hE) hLu; clear hE hLu; refine Back.mk ?_)) | (refine TL.isBin ?_; refine TL.cmpG rfl rfl rfl rfl (fun hc => ?_) (fun hc => ?_) <;> (try (first | (exfalso; omega) | exact absurd rfl hc))) | (apply TL.ev; (case hd => rfl); (case h => (first | exact ev_simple rfl | (apply Ev.isBin; first | exact ev_arN rfl rfl rfl (by omega)) | (apply Ev.isLoad; first | exact ev_loadM rfl (row_sm (r := ⟨x.b, zl⟩) hF hzl (by repeat (first | exact InV.row hx' | apply InV.tail))) hy) | exact ev_indexM rfl rfl hqn (.inr rfl)))) | (refine TL.storeAFr hF rfl rfl rfl rfl (by refine ⟨?_, ?_⟩; (focus (repeat (first | apply SetV.head | apply SetV.tail))); rfl) rfl ?_; clear hF; intro ws hF) | (refine TL.allocFr hF (d := 5) rfl rfl ?_; clear hF; intro w5 b5 hF) | (refine TL.storeAtFr hF (f := ivc) u rfl rfl rfl rfl (fun _ => rfl) (by rw [hzl]; exact hqn) (ivc_noV zl) (by repeat (first | exact SetV.row hx' | apply SetV.tail)) ?_; clear hF; intro ws hF)) | (refine TF.is ?_; first | refine TF.nil ?_ | refine TF.e rfl ?_ | (refine TF.pick rfl ?_; first | (apply TFo.ev; (case hd => rfl); (case h => (intro wh hF; first | exact ev_simple rfl | (apply Ev.isLoad; first | exact ev_loadFr hF rfl (by refine ⟨?_, ?_⟩; (focus (repeat (first | exact InV.head | apply InV.tail))); rfl) | exact ev_loadAFr hF rfl (by refine ⟨?_, ?_⟩; (focus (repeat (first | exact InV.head | apply InV.tail))); rfl)) | exact ev_fieldAddr rfl | exact ev_indexM rfl rfl hqn (.inr rfl) | exact ev_indexN rfl rfl hi (.inr rfl) | exact ev_row hF rfl hx' (by repeat (first | exact InV.head' | apply InV.tail))))))) | (refine T.is ?_; first | refine T.seq ?_ | refine T.region ?_ | refine T.block ?_ | refine T.cond_t rfl ?_ | refine T.skip ?_ | (refine T.regionFr hF 4 9 (.s 0 (.s 1 (.s 2 (.s 3 (.s 4 (.s 5 (.s 6 (.e 7 (.s 8 (.e 9 .nil)))))))))) mixed (by kernel_rfl) ?_; clear hF; intro wr hF)) | (refine G.is ?_; first | refine G.next ?_ | refine G.blockN ?_ | refine G.only ?_ | refine G.treeEnd rfl ?_ | refine G.tree rfl (by first | exact hF | exact hF.weak (by repeat (first | exact List.Sublist.refl _ | apply List.Sublist.cons)) (by repeat (first | exact allR | apply allT)) | exact hF.weak (by repeat (first | exact List.Sublist.refl _ | apply List.Sublist.cons)) (by repeat (first | exact allN | refine allH (by repeat (first | exact memH | apply memT)) ?_))) ?_) | refine TL.nil ?_)
      have hk := (Fr.lk hF (i := c) (l := zl) (Z := fun p => if p < q then - F i p else F i p) (K := K) (by repeat (first | exact memH | apply memT))).setAt (Z' := fun p => if p < q + 1 then - F i p else F i p) (u := u) (q := q) (by omega) (by rw [if_pos (Nat.lt_succ_self _)]; exact Fr.li hF (by repeat (first | exact memH | apply memT))) (by omega) (fun p hp => by by_cases h : p < q <;> simp [h, show p < q + 1 ↔ p < q by omega])
      rw [List.set_set] at hF
      exact G.again (q + 1, zl.set q u) (by repeat (first | exact Sub.nil _ | refine Sub.cons rfl ?_ | refine Sub.cons' rfl (int_congr (by omega)) ?_)) ⟨by dsimp only; omega, by rw [List.length_set]; exact hzl, Fr.flip2 (Fr.addLK (hF.weak (D := [dpLn n c R F K]) (.cons _ (.refl _)) (allH (by repeat (first | exact memH | apply memT)) allN)) hk)⟩ (by dsimp only; omega)
    · obtain rfl : q = c := by omega
      repeat' (first | (refine TL.isOp ?_; first | (refine TL.isBin ?_; refine TL.cmpG rfl rfl rfl rfl (fun hc => ?_) (fun hc => ?_) <;> (try (first | (exfalso; omega) | exact absurd rfl hc)))) | (refine T.is ?_; first | refine T.seq ?_ | refine T.region ?_ | refine T.cond_f rfl ?_ | refine T.exit ?_) | (refine G.is ?_; first | refine G.next ?_ | refine G.blockE ?_ | refine G.thenE ?_) | refine TL.nil ?_)
      refine G.end0 rfl ⟨rfl, R.set i ⟨x.b, zl⟩, hR', by rw [hb'], ?_⟩
      have hk := (Fr.ln hF (R := R) (F := F) (K := K) (n := n) (by repeat (first | exact memH | apply memT))).set (i := i) (F' := fun p r => if p = i then - F i r else F p r) (x := ⟨x.b, zl⟩) (by omega) ((Fr.lk hF (i := q) (l := zl) (by repeat (first | exact memH | apply memT))).congr fun p hp => by simp [hp]) (fun p hp => by funext r; simp [hp])
      exact Fr.addLn (hF.weak (D := []) (.cons _ (.refl _)) allN) hk
set_option maxRecDepth 100000 in
set_option maxHeartbeats 8000000 in
theorem add_on (w : World) (g n c i j K Kk : Nat) (k : IV) (R : List RB) (F : Nat → Nat → Int) (S : Nat → Prop) (hR : Rws n c R) (hi : i < n) (hj : j < n) (hij : i ≠ j) (hc : c ≤ 64) (hK : K ≤ 4398046511104) (hkn : k.m.n ≤ Kk) (hKk : Kk ≤ 4398046511104) (hF : Fr w w (lns g c R []) [dpGI k, dpLn n c R F K] S) :
    Cl Tryz.prog 201 #[.agg (.int .i64 (i : Int) :: .int .i64 (j : Int) :: ivc k).toArray, .slice (some ⟨g, 0, none⟩) n n] w (RetOn w g n c R (fun p q => if p = i then ival k * F j q + F i q else F p q) (Kk + K + 1) S) := by
  obtain ⟨x, hx, hxl, hxd⟩ := hR.at hi
  obtain ⟨xj, hxj, hxjl, hxjd⟩ := hR.at hj
  obtain ⟨kn, ⟨kA, km, kc, kl⟩⟩ := k
  refine enter Tryz.func201 rfl rfl rfl ?_
  have hR0 := hR.n
  repeat' (first | (refine TL.isOp ?_; first | (apply TL.ev; (case hd => rfl); (case h => (first | exact ev_simple rfl | (apply Ev.isLoad; first | exact ev_loadFr hF rfl (by refine ⟨?_, ?_⟩; (focus (repeat (first | exact InV.head | apply InV.tail))); rfl)) | exact ev_len rfl | exact ev_fieldAddr rfl | exact ev_indexN rfl rfl hj (.inr rfl) | exact ev_row hF rfl hxj (by repeat (first | exact InV.head' | apply InV.tail))))) | (refine TL.boxAFr hF (d := 2) (cs := [.int .i64 (i : Int), .int .i64 (j : Int), .bool kn, .slice kA km kc]) rfl rfl ?_; clear hF; intro w2 b2 hF)) | (refine T.is ?_; first | refine T.seq ?_ | refine T.region ?_ | refine T.block ?_) | (refine G.is ?_; first | refine G.next ?_) | refine TL.nil ?_)
  refine T.loop (α := Nat × List IV) (fun z => [(1, .slice (some ⟨g, 0, none⟩) n n), (2, .pointer (some ⟨b2, 0, none⟩)), (10, .slice (some ⟨xj.b, 0, none⟩) c c), (11, .int .i64 (c : Int)), (12, .int .i64 (z.1 : Int))])
    (fun z w' => z.1 ≤ c ∧ z.2.length = c ∧ (∀ p, z.1 ≤ p → z.2.getD p default = x.l.getD p default) ∧ Fr w w' (⟨b2, 115, [.int .i64 (i : Int), .int .i64 (j : Int), .bool kn, .slice kA km kc]⟩ :: lns g c (R.set i ⟨x.b, z.2⟩) []) [dpGI ⟨kn, ⟨kA, km, kc, kl⟩⟩, dpLn n c R F K, dpLK c z.2 (fun q => if q < z.1 then ival ⟨kn, ⟨kA, km, kc, kl⟩⟩ * F j q + F i q else F i q) (Kk + K + 1)] S)
    (fun z => c - z.1) (0, x.l) (by repeat (first | exact Sub.nil _ | refine Sub.cons rfl ?_ | refine Sub.cons' rfl (int_congr (by omega)) ?_)) ⟨Nat.zero_le _, hxl, fun p _ => rfl, ?_⟩ ?_
  · rw [rw_same hx]
    have h := (Fr.ln hF (R := R) (F := F) (K := K) (n := n) (by repeat (first | exact memH | apply memT)) i hi).congrL (Z' := fun q => if q < 0 then ival ⟨kn, ⟨kA, km, kc, kl⟩⟩ * F j q + F i q else F i q) hxd fun q hq => by rw [if_neg (Nat.not_lt_zero _)]
    exact (Fr.addLK hF (h.mono (K' := Kk + K + 1) (by omega))).weak (.refl _) (allH (by repeat (first | exact memH | apply memT)) (allH (by repeat (first | exact memH | apply memT)) (allH (by repeat (first | exact memH | apply memT)) allN)))
  · clear hF
    rintro ⟨q, zl⟩ w2 ⟨hq, hzl, hzx, hF⟩
    dsimp only at hq hzl hzx hF ⊢
    obtain ⟨hR', hx', hb'⟩ := rw_put (l := zl) hR hx hzl
    have hxj' : (R.set i ⟨x.b, zl⟩)[j]? = some xj := by rw [List.getElem?_set_ne hij]; exact hxj
    rcases Nat.lt_or_ge q c with hqn | hqn
    · have hy : zl[q]? = some (zl.getD q default) := by simp [List.getD, show q < zl.length by omega]
      have hyj : xj.l[q]? = some (xj.l.getD q default) := by simp [List.getD, show q < xj.l.length by omega]
      obtain ⟨y, ey⟩ : ∃ y, zl.getD q default = y := ⟨_, rfl⟩
      obtain ⟨yj, eyj⟩ : ∃ y, xj.l.getD q default = y := ⟨_, rfl⟩
      rw [ey] at hy
      rw [eyj] at hyj
      have hky : LI w2.heap (F i q) y ∧ y.m.n ≤ K := by
        have h := (Fr.ln hF (R := R) (F := F) (K := K) (n := n) (by repeat (first | exact memH | apply memT))) i hi q hqn
        rw [hxd, ← hzx q (Nat.le_refl _), ey] at h
        exact h
      have hkyj : LI w2.heap (F j q) yj ∧ yj.m.n ≤ K := by
        have h := (Fr.ln hF (R := R) (F := F) (K := K) (n := n) (by repeat (first | exact memH | apply memT))) j hj q hqn
        rw [hxjd, eyj] at h
        exact h
      replace hF := Fr.addLI (Fr.addLI hF hky.1) hkyj.1
      have hyn := hky.2
      have hyjn := hkyj.2
      clear hky hkyj
      repeat' (first | (refine TL.isOp ?_; first | (refine TL.isCall ?_; refine TL.call rfl rfl ?_; first | (refine (zmulAdd_ok _ ⟨kn, ⟨kA, km, kc, kl⟩⟩ yj y (Fr.gi hF (by repeat (first | exact memH | apply memT))) (Fr.li hF (x := yj) (by repeat (first | exact memH | apply memT))).g (Fr.li hF (x := y) (by repeat (first | exact memH | apply memT))).g (by dsimp only at *; omega) (by omega) (by omega)).mono ?_; rintro _ w1 ⟨u, rfl, hLu, hE, hKu⟩; rw [(Fr.li hF (x := y) (by repeat (first | exact memH | apply memT))).val, (Fr.li hF (x := yj) (by repeat (first | exact memH | apply memT))).val] at hLu; replace hF := Fr.addLI (hF.exts hE) hLu; clear hE hLu; refine Back.mk ?_)) | (refine TL.isBin ?_; refine TL.cmpG rfl rfl rfl rfl (fun hc => ?_) (fun hc => ?_) <;> (try (first | (exfalso; omega) | exact absurd rfl hc))) | (apply TL.ev; (case hd => rfl); (case h => (first | exact ev_simple rfl | (apply Ev.isBin; first | exact ev_arN rfl rfl rfl (by omega)) | (apply Ev.isLoad; first | exact ev_loadM rfl (row_sm (r := xj) hF hxjl (by repeat (first | exact InV.row hxj' | apply InV.tail))) hyj) | exact ev_indexM rfl rfl hqn (.inr rfl)))) | (refine TL.storeAFr hF rfl rfl rfl rfl (by refine ⟨?_, ?_⟩; (focus (repeat (first | apply SetV.head | apply SetV.tail))); rfl) rfl ?_; clear hF; intro ws hF) | (refine TL.allocFr hF (d := 5) rfl rfl ?_; clear hF; intro w5 b5 hF) | (refine TL.storeAtFr hF (f := ivc) u rfl rfl rfl rfl (fun _ => rfl) (by rw [hzl]; exact hqn) (ivc_noV zl) (by repeat (first | exact SetV.row hx' | apply SetV.tail)) ?_; clear hF; intro ws hF)) | (refine TF.is ?_; first | refine TF.nil ?_ | refine TF.e rfl ?_ | (refine TF.pick rfl ?_; first | (apply TFo.ev; (case hd => rfl); (case h => (intro wh hF; first | exact ev_simple rfl | (apply Ev.isLoad; first | exact ev_loadFr hF rfl (by refine ⟨?_, ?_⟩; (focus (repeat (first | exact InV.head | apply InV.tail))); rfl) | exact ev_loadAFr hF rfl (by refine ⟨?_, ?_⟩; (focus (repeat (first | exact InV.head | apply InV.tail))); rfl) | exact ev_loadM rfl (row_sm (r := ⟨x.b, zl⟩) hF hzl (by repeat (first | exact InV.row hx' | apply InV.tail))) hy) | exact ev_fieldAddr rfl | exact ev_indexM rfl rfl hqn (.inr rfl) | exact ev_indexN rfl rfl hi (.inr rfl) | exact ev_row hF rfl hx' (by repeat (first | exact InV.head' | apply InV.tail))))))) | (refine T.is ?_; first | refine T.seq ?_ | refine T.region ?_ | refine T.block ?_ | refine T.cond_t rfl ?_ | refine T.skip ?_ | (refine T.regionFr hF 4 19 (.s 0 (.s 1 (.s 2 (.s 3 (.s 4 (.s 5 (.s 6 (.s 7 (.s 8 (.s 9 (.s 10 (.s 11 (.s 12 (.s 13 (.s 14 (.s 15 (.s 16 (.e 17 (.s 18 (.e 19 .nil)))))))))))))))))))) mixed (by kernel_rfl) ?_; clear hF; intro wr hF)) | (refine G.is ?_; first | refine G.next ?_ | refine G.blockN ?_ | refine G.only ?_ | refine G.treeEnd rfl ?_ | refine G.tree rfl (by first | exact hF | exact hF.weak (by repeat (first | exact List.Sublist.refl _ | apply List.Sublist.cons)) (by repeat (first | exact allR | apply allT)) | exact hF.weak (by repeat (first | exact List.Sublist.refl _ | apply List.Sublist.cons)) (by repeat (first | exact allN | refine allH (by repeat (first | exact memH | apply memT)) ?_))) ?_) | refine TL.nil ?_)
      have hk := (Fr.lk hF (i := c) (l := zl) (Z := fun p => if p < q then ival ⟨kn, ⟨kA, km, kc, kl⟩⟩ * F j p + F i p else F i p) (K := Kk + K + 1) (by repeat (first | exact memH | apply memT))).setAt (Z' := fun p => if p < q + 1 then ival ⟨kn, ⟨kA, km, kc, kl⟩⟩ * F j p + F i p else F i p) (u := u) (q := q) (by omega) (by rw [if_pos (Nat.lt_succ_self _)]; exact Fr.li hF (by repeat (first | exact memH | apply memT))) (by dsimp only at *; omega) (fun p hp => by by_cases h : p < q <;> simp [h, show p < q + 1 ↔ p < q by omega])
      rw [List.set_set] at hF
      exact G.again (q + 1, zl.set q u) (by repeat (first | exact Sub.nil _ | refine Sub.cons rfl ?_ | refine Sub.cons' rfl (int_congr (by omega)) ?_)) ⟨by dsimp only; omega, by rw [List.length_set]; exact hzl, (fun p hp => by rw [getD_set_ne (by omega)]; exact hzx p (by omega)), (Fr.addLK hF hk).weak (.cons _ (.refl _)) (allH (by repeat (first | exact memH | apply memT)) (allH (by repeat (first | exact memH | apply memT)) (allH (by repeat (first | exact memH | apply memT)) allN)))⟩ (by dsimp only; omega)
    · obtain rfl : q = c := by omega
      repeat' (first | (refine TL.isOp ?_; first | (refine TL.isBin ?_; refine TL.cmpG rfl rfl rfl rfl (fun hc => ?_) (fun hc => ?_) <;> (try (first | (exfalso; omega) | exact absurd rfl hc)))) | (refine T.is ?_; first | refine T.seq ?_ | refine T.region ?_ | refine T.cond_f rfl ?_ | refine T.exit ?_) | (refine G.is ?_; first | refine G.next ?_ | refine G.blockE ?_ | refine G.thenE ?_) | refine TL.nil ?_)
      refine G.end0 rfl ⟨rfl, R.set i ⟨x.b, zl⟩, hR', by rw [hb'], ?_⟩
      have hk := ((Fr.ln hF (R := R) (F := F) (K := K) (n := n) (by repeat (first | exact memH | apply memT))).mono (K' := Kk + K + 1) (by omega)).set (i := i) (F' := fun p r => if p = i then ival ⟨kn, ⟨kA, km, kc, kl⟩⟩ * F j r + F i r else F p r) (x := ⟨x.b, zl⟩) (by omega) ((Fr.lk hF (i := q) (l := zl) (by repeat (first | exact memH | apply memT))).congr fun p hp => by simp [hp]) (fun p hp => by funext r; simp [hp])
      exact Fr.addLn (hF.weak (D := []) (.cons _ (.refl _)) allN) hk
theorem perm_set {α : Type} : ∀ (l : List α) (j : Nat) (a b : α), l[j]? = some b → (b :: l.set j a).Perm (a :: l)
  | [], j, a, b, h => by simp at h
  | x :: l, 0, a, b, h => by
    simp at h; subst h
    exact List.Perm.swap a x l
  | x :: l, j + 1, a, b, h => by
    rw [List.getElem?_cons_succ] at h
    rw [List.set_cons_succ]
    exact (List.Perm.swap x b _).trans (((perm_set l j a b h).cons x).trans (List.Perm.swap a x l))
theorem perm_swap {α : Type} : ∀ (l : List α) (i j : Nat) (a b : α), l[i]? = some a → l[j]? = some b → ((l.set i b).set j a).Perm l
  | [], i, j, a, b, h, _ => by simp at h
  | x :: l, 0, 0, a, b, h, h' => by simp at h h'; subst h; subst h'; simp
  | x :: l, 0, j + 1, a, b, h, h' => by
    simp at h; subst h
    rw [List.getElem?_cons_succ] at h'
    rw [List.set_cons_zero, List.set_cons_succ]
    exact perm_set l j x b h'
  | x :: l, i + 1, 0, a, b, h, h' => by
    simp at h'; subst h'
    rw [List.getElem?_cons_succ] at h
    rw [List.set_cons_succ, List.set_cons_zero]
    exact perm_set l i x a h
  | x :: l, i + 1, j + 1, a, b, h, h' => by
    rw [List.getElem?_cons_succ] at h h'
    rw [List.set_cons_succ, List.set_cons_succ]
    exact (perm_swap l i j a b h h').cons x
theorem Fr.perm {S : Nat → Prop} {w0 w : World} {L L' : List VB} {D : List DP} (h : Fr w0 w L D S) (hp : L'.Perm L) : Fr w0 w L' D S :=
  ⟨h.exs, fun v hv => h.vars v (hp.mem_iff.1 hv), (hp.pairwise_iff (fun h => Ne.symm h)).2 h.dist, h.data, fun v hv => h.apart v (hp.mem_iff.1 hv)⟩
theorem putO_one : ∀ (vs : List Value) (i : Nat) (v : Value), i < vs.length → putO vs i [v] = some (vs.set i v)
  | [], i, v, h => by simp at h
  | x :: vs, 0, v, h => by cases vs <;> simp [putO]
  | x :: vs, i + 1, v, h => by
    have := putO_one vs i v (by simpa using h)
    simp [putO, this]
theorem all_set {vs : List Value} {i : Nat} {v : Value} (h : vs.all noU64 = true) (hv : noU64 v = true) : (vs.set i v).all noU64 = true := by
  rw [List.all_eq_true]
  intro u hu
  rcases List.mem_or_eq_of_mem_set hu with h1 | h1
  · exact List.all_eq_true.1 h u h1
  · rw [h1]; exact hv
/-- a slice stored into a place of lines -/
theorem TL.storeRow {P : Program} {N : Fm} {Q : Exit → Act → World → Prop} {σ : Store} {S : Nat → Prop} {w0 w : World} {L L' : List VB} {D : List DP} {ops : Array Oper} {t : TypeId} {pos : String} {af : Array Edge} {rest : List Oper} (hF : Fr w0 w L D S) {x y : Operand} {ty e : TypeId} {z : Value} {b1 : Nat} [hS : USize P ty z 1 b1] {g i : Nat} {vs : List Value} {v : Value}
    (hx : Eng.look σ x = some (.pointer (elemA (some ⟨g, 0, none⟩) i))) (hy : Eng.look σ y = some v) (hvs : v.cells.toList = [v]) (h1 : v.oneCell' = true) (hi : i < vs.length) (hn : vs.all noU64 = true) (hL : SetV L g e vs (vs.set i v) L')
    (K : ∀ w', Fr w0 w' L' D S → TL P N .seq ops Q rest σ w') : TL P N .seq ops Q (⟨none, .store ty x y, t, pos, af, none⟩ :: rest) σ w := by
  refine TL.storeFr hF (b := g) (o := i) (by rw [hx]; simp [elemA, add_mk]) hy hvs h1 ⟨hL, ?_⟩ hn K
  exact putO_one vs i v hi
set_option maxRecDepth 100000 in
set_option maxHeartbeats 8000000 in
theorem swap_on (w : World) (g n c i j K : Nat) (R : List RB) (F : Nat → Nat → Int) (S : Nat → Prop) (hR : Rws n c R) (hi : i < n) (hj : j < n) (hF : Fr w w (lns g c R []) [dpLn n c R F K] S) :
    Cl Tryz.prog 206 #[.agg #[.int .i64 (i : Int), .int .i64 (j : Int)], .slice (some ⟨g, 0, none⟩) n n] w (RetOn w g n c R (fun p q => F (if p = j then i else if p = i then j else p) q) K S) := by
  obtain ⟨x, hx, hxl, hxd⟩ := hR.at hi
  obtain ⟨xj, hxj, hxjl, hxjd⟩ := hR.at hj
  have hlen : (R.flatMap (fun x => [rowv c x])).length = n := by rw [flat_one, List.length_map]; exact hR.n
  have hno : (R.flatMap (fun x => [rowv c x])).all noU64 = true := by
    rw [List.all_eq_true]
    intro v hv
    obtain ⟨y, _, hy⟩ := List.mem_flatMap.1 hv
    rw [List.mem_singleton.1 hy]; rfl
  refine enter Tryz.func206 rfl rfl rfl ?_
  unfold lns at hF
  repeat' (first | (refine TL.isOp ?_; first | (apply TL.ev; (case hd => rfl); (case h => (first | exact ev_row hF rfl hx (by repeat (first | exact InV.head | apply InV.tail)) | exact ev_row hF rfl hxj (by repeat (first | exact InV.head | apply InV.tail))))) | (refine TL.boxAFr hF (d := 2) (cs := [.int .i64 (i : Int), .int .i64 (j : Int)]) rfl rfl ?_; clear hF; intro w2 b2 hF) | (refine TL.storeRow hF (i := i) (vs := R.flatMap (fun x => [rowv c x])) (v := rowv c xj) rfl rfl rfl rfl (by omega) hno (by repeat (first | apply SetV.head | apply SetV.tail)) ?_; clear hF; intro ws hF) | (refine TL.storeRow hF (i := j) (vs := (R.flatMap (fun x => [rowv c x])).set i (rowv c xj)) (v := rowv c x) rfl rfl rfl rfl (by rw [List.length_set]; omega) (all_set hno rfl) (by repeat (first | apply SetV.head | apply SetV.tail)) ?_; clear hF; intro ws hF)) | (refine TF.is ?_; first | refine TF.nil ?_ | refine TF.e rfl ?_ | refine TF.alt ?_ ?_ | (refine TF.pick rfl ?_; first | (apply TFo.ev; (case hd => rfl); (case h => (intro wh hF; first | exact ev_simple rfl | (apply Ev.isLoad; first | exact ev_loadFr hF rfl (by refine ⟨?_, ?_⟩; (focus (repeat (first | exact InV.head | apply InV.tail))); rfl)) | exact ev_fieldAddr rfl | exact ev_indexN rfl rfl hi (.inr rfl) | exact ev_indexN rfl rfl hj (.inr rfl)))))) | (refine T.is ?_; first | refine T.seq ?_ | refine T.region ?_ | (refine T.regionFt hF.swap 1 19 (.s 0 (.s 1 (.s 2 (.s 3 (.s 4 (.s 5 (.s 6 (.s 7 (.s 8 (.s 9 (.s 11 (.s 12 (.s 13 (.s 14 (.alt (.e 10 (.e 15 (.s 16 (.e 17 (.s 18 (.e 19 .nil)))))) (.e 15 (.e 10 (.s 16 (.e 17 (.s 18 (.e 19 .nil))))))))))))))))))))) mixed (by kernel_rfl) ?_; clear hF; intro wr hF)) | (refine G.is ?_; first | refine G.next ?_ | refine G.only ?_ | refine G.treeEnd rfl ?_ | refine G.tree rfl (by first | exact hF | exact hF.weak (by repeat (first | exact List.Sublist.refl _ | apply List.Sublist.cons)) (by repeat (first | exact allR | apply allT)) | exact hF.weak (by repeat (first | exact List.Sublist.refl _ | apply List.Sublist.cons)) (by repeat (first | exact allN | refine allH (by repeat (first | exact memH | apply memT)) ?_))) ?_) | refine TL.nil ?_)
  all_goals
    have hk : LsR n c ((R.set i xj).set j x) (fun p q => F (if p = j then i else if p = i then j else p) q) K ws.heap := by
      have h0 := Fr.ln hF (R := R) (F := F) (K := K) (n := n) (by repeat (first | exact memH | apply memT))
      have hli : i < R.length := by rw [hR.n]; exact hi
      have hlj : j < R.length := by rw [hR.n]; exact hj
      intro p hp
      by_cases h1 : p = j
      · subst h1
        have e1 : ((R.set i xj).set p x).getD p default = x := by simp [List.getD, hlj]
        rw [e1, ← hxd]
        simp only [if_true]
        exact h0 i hi
      · rw [getD_set_ne h1]
        by_cases h2 : p = i
        · subst h2
          have e1 : (R.set p xj).getD p default = xj := by simp [List.getD, hli]
          rw [e1, ← hxjd]
          simp only [if_neg h1, if_true]
          exact h0 j hj
        · rw [getD_set_ne h2]
          simp only [if_neg h1, if_neg h2]
          exact h0 p hp
    refine G.end0 rfl ⟨rfl, (R.set i xj).set j x, (hR.set hxjl).set hxl, (perm_swap R i j x xj hx hxj).map (·.b), ?_⟩
    have hP := (perm_swap R i j x xj hx hxj).map rowVB
    have e : ((R.set i xj).set j x).flatMap (fun x => [rowv c x]) = ((R.flatMap (fun x => [rowv c x])).set i (rowv c xj)).set j (rowv c x) := by rw [flat_one, flat_one, List.map_set, List.map_set]
    refine Fr.addLn (Fr.perm (hF.weak (D := []) (.cons_cons _ (.cons _ (.refl _))) allN) ?_) hk
    unfold lns
    rw [e]
    exact (hP.append_right []).cons _
end Go.Proofs.YtdhmhjbmkimplaaGreat

namespace Go.Proofs.YtdhmhjbmkimplaaGreat
open Go Go.Eng Go.Proofs Go.NatM Go.RowKit

/-- a step as a value -/
structure SP where
  kind : Int
  i : Int
  j : Int
  k : IV
instance : Inhabited SP := ⟨⟨0, 0, 0, ⟨false, ⟨none, 0, 0, []⟩⟩⟩⟩
def spc (s : SP) : List Value := [.int .i64 s.kind, .int .i64 s.i, .int .i64 s.j, .bool s.k.neg, .slice s.k.m.A s.k.m.n s.k.m.c]
def fits (n : Nat) (s : SP) : Prop := (s.kind = 1 ∧ (0 ≤ s.i ∧ s.i < n) ∧ (0 ≤ s.j ∧ s.j < n)) ∨ (s.kind = 2 ∧ (0 ≤ s.i ∧ s.i < n)) ∨ (s.kind = 3 ∧ (0 ≤ s.i ∧ s.i < n) ∧ (0 ≤ s.j ∧ s.j < n) ∧ s.i ≠ s.j)
/-- the move of a step: by its kind; x: its number in least form -/
def mvv (s : SP) (x : IV) : Value := if s.kind = 1 then .iface 125 (.agg #[.int .i64 s.i, .int .i64 s.j]) else if s.kind = 2 then .iface 127 (.agg #[.int .i64 s.i]) else if s.kind = 3 then .iface 115 (.agg (.int .i64 s.i :: .int .i64 s.j :: ivc x).toArray) else .iface 129 (.agg #[])
def RetMv (w : World) (s : SP) (K : Nat) (e : Ending) (w' : World) : Prop := ∃ x : IV, e = .returned (mvv s x) ∧ (s.kind = 3 → LI w'.heap (ival s.k) x ∧ x.m.n ≤ K) ∧ Ext w w'
set_option maxRecDepth 100000 in
set_option maxHeartbeats 8000000 in
theorem read_ok (w : World) (s : SP) (K : Nat) (gk : s.kind = 3 → GI w.heap s.k ∧ s.k.m.n ≤ K) (hK : K ≤ 4398046511104) : Cl Tryz.prog 40 #[.agg (spc s).toArray] w (RetMv w s K) := by
  have hz := fun w1 (hE : Ext w w1) (h : s.kind = 3) => zleast_ok w1 s.k ((gk h).1.ext hE) (by have := (gk h).2; omega)
  have hn := fun h => (gk h).2
  clear gk
  obtain ⟨kd, i, j, ⟨kn, ⟨kA, km, kc, kl⟩⟩⟩ := s
  dsimp only at hz hn
  by_cases h1 : kd = 1
  · subst h1
    refine enter Tryz.func40 rfl rfl rfl ?_
    have hF := Fr.refl w
    repeat' (first | (refine TL.isOp ?_; first | (refine TL.isBin ?_; refine TL.cmpG rfl rfl rfl rfl (fun hc => ?_) (fun hc => ?_) <;> (try (first | (exfalso; omega) | exact absurd rfl hc))) | (apply TL.ev; (case hd => rfl); (case h => (first | exact ev_simple rfl | (apply Ev.isLoad; first | exact ev_loadFr hF rfl (by refine ⟨?_, ?_⟩; (focus (repeat (first | exact InV.head | apply InV.tail))); rfl)) | exact ev_fieldAddr rfl | exact ev_buildX rfl rfl | exact ev_iface rfl))) | (refine TL.boxAFr hF (d := 1) (cs := [.int .i64 1, .int .i64 i, .int .i64 j, .bool kn, .slice kA km kc]) rfl rfl ?_; clear hF; intro w1 b1 hF)) | (refine T.is ?_; first | refine T.seq ?_ | refine T.region ?_ | refine T.block ?_ | refine T.cond_t rfl ?_ | refine T.ret ?_) | (refine G.is ?_; first | refine G.next ?_ | refine G.blockR ?_ | refine G.thenR ?_) | refine TL.nil ?_)
    exact G.ret1 rfl rfl ⟨default, by simp [mvv], fun h => absurd h (by simp), hF.ext⟩
  by_cases h2 : kd = 2
  · subst h2
    refine enter Tryz.func40 rfl rfl rfl ?_
    have hF := Fr.refl w
    repeat' (first | (refine TL.isOp ?_; first | (refine TL.isBin ?_; refine TL.cmpG rfl rfl rfl rfl (fun hc => ?_) (fun hc => ?_) <;> (try (first | (exfalso; omega) | exact absurd rfl hc))) | (apply TL.ev; (case hd => rfl); (case h => (first | exact ev_simple rfl | (apply Ev.isLoad; first | exact ev_loadFr hF rfl (by refine ⟨?_, ?_⟩; (focus (repeat (first | exact InV.head | apply InV.tail))); rfl)) | exact ev_fieldAddr rfl | exact ev_buildX rfl rfl | exact ev_iface rfl))) | (refine TL.boxAFr hF (d := 1) (cs := [.int .i64 2, .int .i64 i, .int .i64 j, .bool kn, .slice kA km kc]) rfl rfl ?_; clear hF; intro w1 b1 hF)) | (refine T.is ?_; first | refine T.seq ?_ | refine T.region ?_ | refine T.block ?_ | refine T.cond_t rfl ?_ | refine T.cond_f rfl ?_ | refine T.ret ?_) | (refine G.is ?_; first | refine G.next ?_ | refine G.blockR ?_ | refine G.thenR ?_) | refine TL.nil ?_)
    exact G.ret1 rfl rfl ⟨default, by simp [mvv], fun h => absurd h (by simp), hF.ext⟩
  by_cases h3 : kd = 3
  · subst h3
    refine enter Tryz.func40 rfl rfl rfl ?_
    have hF := Fr.refl w
    repeat' (first | (refine TL.isOp ?_; first | (refine TL.isCall ?_; refine TL.call rfl rfl ?_; first | (refine (hz _ hF.ext rfl).mono ?_; rintro _ w1 ⟨⟨un, ⟨uA, um, uc, ul⟩⟩, rfl, hL, hE, hKu⟩; replace hF := Fr.addLI (hF.exts hE) hL; clear hE hL; refine Back.mk ?_)) | (refine TL.isBin ?_; refine TL.cmpG rfl rfl rfl rfl (fun hc => ?_) (fun hc => ?_) <;> (try (first | (exfalso; omega) | exact absurd rfl hc))) | (apply TL.ev; (case hd => rfl); (case h => (first | exact ev_simple rfl | (apply Ev.isLoad; first | exact ev_loadFr hF rfl (by refine ⟨?_, ?_⟩; (focus (repeat (first | exact InV.head | apply InV.tail))); rfl)) | exact ev_fieldAddr rfl))) | (refine TL.boxAFr hF (d := 1) (cs := [.int .i64 3, .int .i64 i, .int .i64 j, .bool kn, .slice kA km kc]) rfl rfl ?_; clear hF; intro w1 b1 hF)) | (refine TF.is ?_; first | refine TF.nil ?_ | refine TF.e rfl ?_ | (refine TF.pick rfl ?_; first | (apply TFo.ev; (case hd => rfl); (case h => (intro wh hF; first | exact ev_simple rfl | (apply Ev.isLoad; first | exact ev_loadFr hF rfl (by refine ⟨?_, ?_⟩; (focus (repeat (first | exact InV.head | apply InV.tail))); rfl) | exact ev_loadAFr hF rfl (by refine ⟨?_, ?_⟩; (focus (repeat (first | exact InV.head | apply InV.tail))); rfl)) | exact ev_fieldAddr rfl | exact ev_buildX rfl rfl | exact ev_iface rfl))))) | (refine T.is ?_; first | refine T.seq ?_ | refine T.region ?_ | refine T.block ?_ | refine T.cond_t rfl ?_ | refine T.cond_f rfl ?_ | refine T.ret ?_ | (refine T.regionFr hF 7 10 (.s 0 (.s 1 (.s 2 (.s 3 (.s 4 (.s 5 (.e 6 (.s 7 (.s 8 (.s 9 .nil)))))))))) mixed (by kernel_rfl) ?_; clear hF; intro wr hF)) | (refine G.is ?_; first | refine G.next ?_ | refine G.blockR ?_ | refine G.thenR ?_ | refine G.only ?_ | refine G.tree rfl (by first | exact hF | exact hF.weak (by repeat (first | exact List.Sublist.refl _ | apply List.Sublist.cons)) (by repeat (first | exact allR | apply allT)) | exact hF.weak (by repeat (first | exact List.Sublist.refl _ | apply List.Sublist.cons)) (by repeat (first | exact allN | refine allH (by repeat (first | exact memH | apply memT)) ?_))) ?_) | refine TL.nil ?_)
    exact G.ret1 rfl rfl ⟨⟨un, ⟨uA, um, uc, ul⟩⟩, by simp [mvv, ivc], fun _ => ⟨Fr.li hF (by repeat (first | exact memH | apply memT)), Nat.le_trans hKu (hn rfl)⟩, hF.ext⟩
  · refine enter Tryz.func40 rfl rfl rfl ?_
    have hF := Fr.refl w
    repeat' (first | (refine TL.isOp ?_; first | (refine TL.isBin ?_; refine TL.cmpG rfl rfl rfl rfl (fun hc => ?_) (fun hc => ?_) <;> (try (first | (exfalso; omega) | exact absurd rfl hc))) | (apply TL.ev; (case hd => rfl); (case h => (first | exact ev_simple rfl | (apply Ev.isLoad; first | exact ev_loadFr hF rfl (by refine ⟨?_, ?_⟩; (focus (repeat (first | exact InV.head | apply InV.tail))); rfl)) | exact ev_fieldAddr rfl | exact ev_buildX rfl rfl | exact ev_iface rfl))) | (refine TL.boxAFr hF (d := 1) (cs := [.int .i64 kd, .int .i64 i, .int .i64 j, .bool kn, .slice kA km kc]) rfl rfl ?_; clear hF; intro w1 b1 hF)) | (refine T.is ?_; first | refine T.seq ?_ | refine T.region ?_ | refine T.block ?_ | refine T.cond_f rfl ?_ | refine T.ret ?_ | refine T.skip ?_) | (refine G.is ?_; first | refine G.next ?_ | refine G.blockN ?_) | refine TL.nil ?_)
    exact G.ret1 rfl rfl ⟨default, by simp [mvv, h1, h2, h3], fun h => absurd h h3, hF.ext⟩
def RetBb (w : World) (p : Prop) (e : Ending) (w' : World) : Prop := ∃ b : Bool, (b = true ↔ p) ∧ e = .returned (.bool b) ∧ Ext w w'
theorem in_ok (w : World) (i n : Int) (b : Bool) (h : decide (0 ≤ i ∧ i < n) = b) : Cl Tryz.prog 203 #[.int .i64 i, .int .i64 n] w (fun e w' => e = .returned (.bool b) ∧ Ext w w') := by
  subst h
  refine enter Tryz.func203 rfl rfl rfl ?_
  have hF := Fr.refl w
  repeat' (first | (refine TL.isOp ?_; first | (refine TL.isG ?_; first | refine TL.grun rfl rfl rfl ?_ | refine TL.gskip rfl rfl rfl rfl ?_) | (refine TL.isBin ?_; refine TL.cmpG rfl rfl rfl rfl (fun hc => ?_) (fun hc => ?_) <;> (try (first | (exfalso; omega) | exact absurd rfl hc))) | (apply TL.ev; (case hd => rfl); (case h => (first | exact ev_simple rfl)))) | (refine T.is ?_; first | refine T.seq ?_ | refine T.region ?_ | refine T.ret ?_) | (refine G.is ?_; first | refine G.next ?_) | refine TL.nil ?_)
  all_goals first | exact G.ret1 rfl rfl ⟨by rw [decide_eq_true (by omega)], hF.ext⟩ | exact G.ret1 rfl rfl ⟨by rw [decide_eq_false (by omega)], hF.ext⟩
theorem neg_fits (w : World) (i : Int) (n : Nat) : Cl Tryz.prog 208 #[.agg #[.int .i64 i], .int .i64 (n : Int)] w (RetBb w (0 ≤ i ∧ i < n)) := by
  by_cases h : 0 ≤ i ∧ i < (n : Int)
  · refine enter Tryz.func208 rfl rfl rfl ?_
    have hF := Fr.refl w
    repeat' (first | (refine TL.isOp ?_; first | (refine TL.isCall ?_; refine TL.call rfl rfl ?_; first | (refine (in_ok _ i (n : Int) true (decide_eq_true h)).mono ?_; rintro _ wc ⟨rfl, hE⟩; replace hF := hF.exts hE; clear hE; refine Back.mk ?_)) | (apply TL.ev; (case hd => rfl); (case h => (first | exact ev_simple rfl | (apply Ev.isLoad; first | exact ev_loadFr hF rfl (by refine ⟨?_, ?_⟩; (focus (repeat (first | exact InV.head | apply InV.tail))); rfl)) | exact ev_fieldAddr rfl))) | (refine TL.boxAFr hF (d := 2) (cs := [.int .i64 i]) rfl rfl ?_; clear hF; intro w2 b2 hF)) | (refine T.is ?_; first | refine T.seq ?_ | refine T.region ?_ | refine T.ret ?_) | (refine G.is ?_; first | refine G.next ?_) | refine TL.nil ?_)
    exact G.ret1 rfl rfl ⟨true, by simp [h], rfl, hF.ext⟩
  · refine enter Tryz.func208 rfl rfl rfl ?_
    have hF := Fr.refl w
    repeat' (first | (refine TL.isOp ?_; first | (refine TL.isCall ?_; refine TL.call rfl rfl ?_; first | (refine (in_ok _ i (n : Int) false (decide_eq_false h)).mono ?_; rintro _ wc ⟨rfl, hE⟩; replace hF := hF.exts hE; clear hE; refine Back.mk ?_)) | (apply TL.ev; (case hd => rfl); (case h => (first | exact ev_simple rfl | (apply Ev.isLoad; first | exact ev_loadFr hF rfl (by refine ⟨?_, ?_⟩; (focus (repeat (first | exact InV.head | apply InV.tail))); rfl)) | exact ev_fieldAddr rfl))) | (refine TL.boxAFr hF (d := 2) (cs := [.int .i64 i]) rfl rfl ?_; clear hF; intro w2 b2 hF)) | (refine T.is ?_; first | refine T.seq ?_ | refine T.region ?_ | refine T.ret ?_) | (refine G.is ?_; first | refine G.next ?_) | refine TL.nil ?_)
    exact G.ret1 rfl rfl ⟨false, by simp; omega, rfl, hF.ext⟩
theorem swap_fits (w : World) (i j : Int) (n : Nat) : Cl Tryz.prog 205 #[.agg #[.int .i64 i, .int .i64 j], .int .i64 (n : Int)] w (RetBb w ((0 ≤ i ∧ i < n) ∧ 0 ≤ j ∧ j < n)) := by
  by_cases h : 0 ≤ i ∧ i < (n : Int)
  · by_cases hj : 0 ≤ j ∧ j < (n : Int)
    · refine enter Tryz.func205 rfl rfl rfl ?_
      have hF := Fr.refl w
      repeat' (first | (refine TL.isOp ?_; first | (refine TL.isG ?_; first | refine TL.grun rfl rfl rfl ?_) | (refine TL.isCall ?_; refine TL.call rfl rfl ?_; first | (refine (in_ok _ i (n : Int) true (decide_eq_true h)).mono ?_; rintro _ wc ⟨rfl, hE⟩; replace hF := hF.exts hE; clear hE; refine Back.mk ?_) | (refine (in_ok _ j (n : Int) true (decide_eq_true hj)).mono ?_; rintro _ wc ⟨rfl, hE⟩; replace hF := hF.exts hE; clear hE; refine Back.mk ?_)) | (apply TL.ev; (case hd => rfl); (case h => (first | exact ev_simple rfl | (apply Ev.isLoad; first | exact ev_loadFr hF rfl (by refine ⟨?_, ?_⟩; (focus (repeat (first | exact InV.head | apply InV.tail))); rfl)) | exact ev_fieldAddr rfl))) | (refine TL.boxAFr hF (d := 2) (cs := [.int .i64 i, .int .i64 j]) rfl rfl ?_; clear hF; intro w2 b2 hF)) | (refine T.is ?_; first | refine T.seq ?_ | refine T.region ?_ | refine T.ret ?_) | (refine G.is ?_; first | refine G.next ?_) | refine TL.nil ?_)
      exact G.ret1 rfl rfl ⟨true, by simp [h, hj], rfl, hF.ext⟩
    · refine enter Tryz.func205 rfl rfl rfl ?_
      have hF := Fr.refl w
      repeat' (first | (refine TL.isOp ?_; first | (refine TL.isG ?_; first | refine TL.grun rfl rfl rfl ?_) | (refine TL.isCall ?_; refine TL.call rfl rfl ?_; first | (refine (in_ok _ i (n : Int) true (decide_eq_true h)).mono ?_; rintro _ wc ⟨rfl, hE⟩; replace hF := hF.exts hE; clear hE; refine Back.mk ?_) | (refine (in_ok _ j (n : Int) false (decide_eq_false hj)).mono ?_; rintro _ wc ⟨rfl, hE⟩; replace hF := hF.exts hE; clear hE; refine Back.mk ?_)) | (apply TL.ev; (case hd => rfl); (case h => (first | exact ev_simple rfl | (apply Ev.isLoad; first | exact ev_loadFr hF rfl (by refine ⟨?_, ?_⟩; (focus (repeat (first | exact InV.head | apply InV.tail))); rfl)) | exact ev_fieldAddr rfl))) | (refine TL.boxAFr hF (d := 2) (cs := [.int .i64 i, .int .i64 j]) rfl rfl ?_; clear hF; intro w2 b2 hF)) | (refine T.is ?_; first | refine T.seq ?_ | refine T.region ?_ | refine T.ret ?_) | (refine G.is ?_; first | refine G.next ?_) | refine TL.nil ?_)
      exact G.ret1 rfl rfl ⟨false, by simp; omega, rfl, hF.ext⟩
  · refine enter Tryz.func205 rfl rfl rfl ?_
    have hF := Fr.refl w
    repeat' (first | (refine TL.isOp ?_; first | (refine TL.isG ?_; first | refine TL.gskip rfl rfl rfl rfl ?_) | (refine TL.isCall ?_; refine TL.call rfl rfl ?_; first | (refine (in_ok _ i (n : Int) false (decide_eq_false h)).mono ?_; rintro _ wc ⟨rfl, hE⟩; replace hF := hF.exts hE; clear hE; refine Back.mk ?_)) | (apply TL.ev; (case hd => rfl); (case h => (first | exact ev_simple rfl | (apply Ev.isLoad; first | exact ev_loadFr hF rfl (by refine ⟨?_, ?_⟩; (focus (repeat (first | exact InV.head | apply InV.tail))); rfl)) | exact ev_fieldAddr rfl))) | (refine TL.boxAFr hF (d := 2) (cs := [.int .i64 i, .int .i64 j]) rfl rfl ?_; clear hF; intro w2 b2 hF)) | (refine T.is ?_; first | refine T.seq ?_ | refine T.region ?_ | refine T.ret ?_) | (refine G.is ?_; first | refine G.next ?_) | refine TL.nil ?_)
    exact G.ret1 rfl rfl ⟨false, by simp; omega, rfl, hF.ext⟩
theorem add_fits (w : World) (i j : Int) (k : IV) (n : Nat) : Cl Tryz.prog 200 #[.agg (.int .i64 i :: .int .i64 j :: ivc k).toArray, .int .i64 (n : Int)] w (RetBb w ((0 ≤ i ∧ i < n) ∧ (0 ≤ j ∧ j < n) ∧ i ≠ j)) := by
  obtain ⟨kn, ⟨kA, km, kc, kl⟩⟩ := k
  by_cases h : 0 ≤ i ∧ i < (n : Int)
  · by_cases hj : 0 ≤ j ∧ j < (n : Int)
    · by_cases hij : i = j
      · subst hij
        refine enter Tryz.func200 rfl rfl rfl ?_
        have hF := Fr.refl w
        repeat' (first | (refine TL.isOp ?_; first | (refine TL.isG ?_; first | refine TL.grun rfl rfl rfl ?_) | (refine TL.isCall ?_; refine TL.call rfl rfl ?_; first | (refine (in_ok _ i (n : Int) true (decide_eq_true h)).mono ?_; rintro _ wc ⟨rfl, hE⟩; replace hF := hF.exts hE; clear hE; refine Back.mk ?_)) | (refine TL.isBin ?_; refine TL.cmpG rfl rfl rfl rfl (fun hc => ?_) (fun hc => ?_) <;> (try (first | (exfalso; omega) | exact absurd rfl hc))) | (apply TL.ev; (case hd => rfl); (case h => (first | exact ev_simple rfl | (apply Ev.isLoad; first | exact ev_loadFr hF rfl (by refine ⟨?_, ?_⟩; (focus (repeat (first | exact InV.head | apply InV.tail))); rfl)) | exact ev_fieldAddr rfl))) | (refine TL.boxAFr hF (d := 2) (cs := [.int .i64 i, .int .i64 i, .bool kn, .slice kA km kc]) rfl rfl ?_; clear hF; intro w2 b2 hF)) | (refine T.is ?_; first | refine T.seq ?_ | refine T.region ?_ | refine T.ret ?_) | (refine G.is ?_; first | refine G.next ?_) | refine TL.nil ?_)
        exact G.ret1 rfl rfl ⟨false, by simp, rfl, hF.ext⟩
      · refine enter Tryz.func200 rfl rfl rfl ?_
        have hF := Fr.refl w
        repeat' (first | (refine TL.isOp ?_; first | (refine TL.isG ?_; first | refine TL.grun rfl rfl rfl ?_) | (refine TL.isCall ?_; refine TL.call rfl rfl ?_; first | (refine (in_ok _ i (n : Int) true (decide_eq_true h)).mono ?_; rintro _ wc ⟨rfl, hE⟩; replace hF := hF.exts hE; clear hE; refine Back.mk ?_) | (refine (in_ok _ j (n : Int) true (decide_eq_true hj)).mono ?_; rintro _ wc ⟨rfl, hE⟩; replace hF := hF.exts hE; clear hE; refine Back.mk ?_)) | (refine TL.isBin ?_; refine TL.cmpG rfl rfl rfl rfl (fun hc => ?_) (fun hc => ?_) <;> (try (first | (exfalso; omega) | exact absurd rfl hc))) | (apply TL.ev; (case hd => rfl); (case h => (first | exact ev_simple rfl | (apply Ev.isLoad; first | exact ev_loadFr hF rfl (by refine ⟨?_, ?_⟩; (focus (repeat (first | exact InV.head | apply InV.tail))); rfl)) | exact ev_fieldAddr rfl))) | (refine TL.boxAFr hF (d := 2) (cs := [.int .i64 i, .int .i64 j, .bool kn, .slice kA km kc]) rfl rfl ?_; clear hF; intro w2 b2 hF)) | (refine T.is ?_; first | refine T.seq ?_ | refine T.region ?_ | refine T.ret ?_) | (refine G.is ?_; first | refine G.next ?_) | refine TL.nil ?_)
        exact G.ret1 rfl rfl ⟨true, by simp [h, hj, hij], rfl, hF.ext⟩
    · refine enter Tryz.func200 rfl rfl rfl ?_
      have hF := Fr.refl w
      repeat' (first | (refine TL.isOp ?_; first | (refine TL.isG ?_; first | refine TL.grun rfl rfl rfl ?_ | refine TL.gskip rfl rfl rfl rfl ?_) | (refine TL.isCall ?_; refine TL.call rfl rfl ?_; first | (refine (in_ok _ i (n : Int) true (decide_eq_true h)).mono ?_; rintro _ wc ⟨rfl, hE⟩; replace hF := hF.exts hE; clear hE; refine Back.mk ?_) | (refine (in_ok _ j (n : Int) false (decide_eq_false hj)).mono ?_; rintro _ wc ⟨rfl, hE⟩; replace hF := hF.exts hE; clear hE; refine Back.mk ?_)) | (apply TL.ev; (case hd => rfl); (case h => (first | exact ev_simple rfl | (apply Ev.isLoad; first | exact ev_loadFr hF rfl (by refine ⟨?_, ?_⟩; (focus (repeat (first | exact InV.head | apply InV.tail))); rfl)) | exact ev_fieldAddr rfl))) | (refine TL.boxAFr hF (d := 2) (cs := [.int .i64 i, .int .i64 j, .bool kn, .slice kA km kc]) rfl rfl ?_; clear hF; intro w2 b2 hF)) | (refine T.is ?_; first | refine T.seq ?_ | refine T.region ?_ | refine T.ret ?_) | (refine G.is ?_; first | refine G.next ?_) | refine TL.nil ?_)
      exact G.ret1 rfl rfl ⟨false, by simp; omega, rfl, hF.ext⟩
  · refine enter Tryz.func200 rfl rfl rfl ?_
    have hF := Fr.refl w
    repeat' (first | (refine TL.isOp ?_; first | (refine TL.isG ?_; first | refine TL.gskip rfl rfl rfl rfl ?_) | (refine TL.isCall ?_; refine TL.call rfl rfl ?_; first | (refine (in_ok _ i (n : Int) false (decide_eq_false h)).mono ?_; rintro _ wc ⟨rfl, hE⟩; replace hF := hF.exts hE; clear hE; refine Back.mk ?_)) | (apply TL.ev; (case hd => rfl); (case h => (first | exact ev_simple rfl | (apply Ev.isLoad; first | exact ev_loadFr hF rfl (by refine ⟨?_, ?_⟩; (focus (repeat (first | exact InV.head | apply InV.tail))); rfl)) | exact ev_fieldAddr rfl))) | (refine TL.boxAFr hF (d := 2) (cs := [.int .i64 i, .int .i64 j, .bool kn, .slice kA km kc]) rfl rfl ?_; clear hF; intro w2 b2 hF)) | (refine T.is ?_; first | refine T.seq ?_ | refine T.region ?_ | refine T.ret ?_) | (refine G.is ?_; first | refine G.next ?_) | refine TL.nil ?_)
    exact G.ret1 rfl rfl ⟨false, by simp; omega, rfl, hF.ext⟩
theorem alien_fits (w : World) (n : Nat) : Cl Tryz.prog 211 #[.agg #[], .int .i64 (n : Int)] w (RetBb w False) := by
  refine enter Tryz.func211 rfl rfl rfl ?_
  have hF := Fr.refl w
  repeat' (first | (refine TL.isOp ?_; first | (apply TL.ev; (case hd => rfl); (case h => (first | exact ev_simple rfl))) | (refine TL.boxAFr hF (d := 2) (cs := []) rfl rfl ?_; clear hF; intro w2 b2 hF)) | (refine T.is ?_; first | refine T.seq ?_ | refine T.region ?_ | refine T.ret ?_) | (refine G.is ?_; first | refine G.next ?_) | refine TL.nil ?_)
  all_goals exact G.ret1 rfl rfl ⟨false, by simp, rfl, hF.ext⟩
section
variable {N : Fm} {Q : Exit → Act → World → Prop} {σ : Store} {w : World} {ops : Array Oper} {d : Nat} {t : TypeId} {pos : String} {af : Array Edge} {rest : List Oper}
/-- does a step fit? asked of its move -/
theorem TL.fitsMv {x : Operand} {xs : List Operand} {tys : Array TypeId} {s : SP} {xv : IV} {n : Nat} (hr : Eng.look σ x = some (mvv s xv)) (hx : looks σ xs = some [.int .i64 (n : Int)]) (hd : Nat.blt d N.n = true)
    (K : ∀ (b : Bool) (w' : World), (b = true ↔ fits n s) → Ext w w' → TL Tryz.prog N .seq ops Q rest ((d, .bool b) :: σ) w') :
    TL Tryz.prog N .seq ops Q (⟨some d, .call { callee := .invoke x "trellis/steps.fits", args := xs.toArray, argTypes := tys }, t, pos, af, none⟩ :: rest) σ w := by
  unfold mvv at hr
  split at hr
  · rename_i h1
    refine TL.callI hr hx hd ((swap_fits w s.i s.j n).mono ?_)
    rintro _ w' ⟨b, hb, rfl, hE⟩
    exact Back.mk (K b w' (hb.trans (by unfold fits; simp [h1])) hE)
  · rename_i h1
    split at hr
    · rename_i h2
      refine TL.callI hr hx hd ((neg_fits w s.i n).mono ?_)
      rintro _ w' ⟨b, hb, rfl, hE⟩
      exact Back.mk (K b w' (hb.trans (by unfold fits; simp [h2])) hE)
    · rename_i h2
      split at hr
      · rename_i h3
        refine TL.callI hr hx hd ((add_fits w s.i s.j xv n).mono ?_)
        rintro _ w' ⟨b, hb, rfl, hE⟩
        exact Back.mk (K b w' (hb.trans (by unfold fits; simp [h3])) hE)
      · rename_i h3
        refine TL.callI hr hx hd ((alien_fits w n).mono ?_)
        rintro _ w' ⟨b, hb, rfl, hE⟩
        exact Back.mk (K b w' (hb.trans (by unfold fits; simp [h1, h2, h3])) hE)
end
end Go.Proofs.YtdhmhjbmkimplaaGreat

namespace Go.Proofs.YtdhmhjbmkimplaaGreat
open Go Go.Eng Go.Proofs Go.NatM Go.RowKit

/-- a list of integers in a block of its own, known whole -/
def RetLV (w : World) (n : Nat) (Z : Nat → Int) (K : Nat) (e : Ending) (w' : World) : Prop := ∃ (b : Nat) (l : List IV), e = .returned (.slice (some ⟨b, 0, none⟩) n n) ∧ l.length = n ∧ Vr w'.heap b 51 (l.flatMap ivc) ∧ LsK n l Z K w'.heap ∧ Ext w w' ∧ w.heap.size ≤ b
set_option maxRecDepth 100000 in
set_option maxHeartbeats 8000000 in
theorem each_vr (w : World) (A : Option Addr) (n k : Nat) (l : List IV) (hs : Sm 2 ivc w.heap w.heap.size A n k l) (hn : n ≤ 1048576) (g : FuncId) (cap : List Value) (hg : IsFn Tryz.prog g) (Z : Nat → Int) (K : Nat)
    (hG : ∀ i y (w1 : World), l[i]? = some y → Ext w w1 → Cl Tryz.prog g ([Value.agg (ivc y).toArray] ++ cap).toArray w1 (RetZ w1 (Z i) K)) :
    Cl Tryz.prog 120 #[.slice A n k, .func (.func g) #[] cap.toArray] w (RetLV w n Z K) := by
  have hlen := hs.len
  refine enter Tryz.func120 rfl rfl rfl ?_
  have hF := Fr.refl w
  repeat' (first | (refine TL.isOp ?_; first | (apply TL.ev; (case hd => rfl); (case h => (first | exact ev_simple rfl | exact ev_len rfl))) | (refine TL.makeFr hF ivc ⟨false, ⟨none, 0, 0, []⟩⟩ (d := 10) rfl rfl rfl (Nat.le_refl _) (by omega) rfl rfl rfl ?_; clear hF; intro w10 b10 hF)) | (refine T.is ?_; first | refine T.seq ?_ | refine T.region ?_ | refine T.block ?_) | (refine G.is ?_; first | refine G.next ?_) | refine TL.nil ?_)
  refine T.loop (α := Nat × List IV) (fun x => [(1, .func (.func g) #[] cap.toArray), (5, .slice (some ⟨b10, 0, none⟩) n n), (11, .slice A n k), (12, .int .i64 (n : Int)), (13, .int .i64 (x.1 : Int))])
    (fun x w' => x.1 ≤ n ∧ x.2.length = n ∧ Fr w w' [⟨b10, 51, x.2.flatMap ivc⟩] [dpLK x.1 x.2 Z K])
    (fun x => n - x.1) (0, List.replicate n ⟨false, ⟨none, 0, 0, []⟩⟩) (by repeat (first | exact Sub.nil _ | refine Sub.cons rfl ?_ | refine Sub.cons' rfl (int_congr (by omega)) ?_)) ⟨Nat.zero_le _, List.length_replicate .., Fr.addLK hF (fun q hq => absurd hq (Nat.not_lt_zero _))⟩ ?_
  clear hF
  rintro ⟨i, zl⟩ w2 ⟨hi, hzl, hF⟩
  dsimp only at hi hzl hF ⊢
  rcases Nat.lt_or_ge i n with hin | hin
  · have hy : l[i]? = some (l.getD i default) := by simp [List.getD, show i < l.length by omega]
    obtain ⟨⟨yneg, ⟨yA, yn, yc, yl⟩⟩, ey⟩ : ∃ y, l.getD i default = y := ⟨_, rfl⟩
    rw [ey] at hy
    repeat' (first | (refine TL.isOp ?_; first | (refine TL.isBin ?_; refine TL.cmpG rfl rfl rfl rfl (fun hc => ?_) (fun hc => ?_) <;> (try (first | (exfalso; omega) | exact absurd rfl hc))) | (apply TL.ev; (case hd => rfl); (case h => (first | exact ev_simple rfl | (apply Ev.isBin; first | exact ev_arN rfl rfl rfl (by omega)) | (apply Ev.isLoad; first | exact ev_loadAFr hF rfl (by refine ⟨?_, ?_⟩; (focus (repeat (first | exact InV.head | apply InV.tail))); rfl) | exact ev_loadM rfl (hs.ext hF.ext) hy) | exact ev_indexM rfl rfl hin (hs.ext hF.ext).some | exact ev_indexM rfl rfl hin (.inr rfl)))) | (refine TL.storeAFr hF rfl rfl rfl rfl (by refine ⟨?_, ?_⟩; (focus (repeat (first | apply SetV.head | apply SetV.tail))); rfl) rfl ?_; clear hF; intro ws hF) | (refine TL.callV (vs := [.agg (ivc ⟨yneg, ⟨yA, yn, yc, yl⟩⟩).toArray]) (cap := cap) hg rfl rfl rfl ?_; refine (hG i _ _ hy hF.ext).mono ?_; rintro _ wf ⟨x, rfl, hLx, hE, hKx⟩; replace hF := Fr.addLI (hF.exts hE) hLx; clear hE hLx; refine Back.mk ?_) | (refine TL.storeAtFr hF (f := ivc) x rfl rfl rfl rfl (fun _ => rfl) (by rw [hzl]; exact hin) (ivc_noV zl) (by repeat (first | apply SetV.head | apply SetV.tail)) ?_; clear hF; intro ws hF) | (refine TL.allocFr hF rfl rfl ?_; clear hF; intro wa ba hF)) | (refine T.is ?_; first | refine T.seq ?_ | refine T.region ?_ | refine T.block ?_ | refine T.cond_t rfl ?_ | refine T.skip ?_) | (refine G.is ?_; first | refine G.next ?_ | refine G.blockN ?_) | refine TL.nil ?_)
    have hk := (Fr.lk hF (i := i) (l := zl) (by repeat (first | exact memH | apply memT))).set (by omega) (Fr.li hF (x := x) (by repeat (first | exact memH | apply memT))) hKx
    exact G.again (i + 1, zl.set i x) (by repeat (first | exact Sub.nil _ | refine Sub.cons rfl ?_ | refine Sub.cons' rfl (int_congr (by omega)) ?_)) ⟨by dsimp only; omega, by rw [List.length_set]; exact hzl, Fr.addLK (hF.weak (L := [⟨b10, 51, (zl.set i x).flatMap ivc⟩]) (D := []) (List.Sublist.cons _ (List.Sublist.refl _)) allN) hk⟩ (by dsimp only; omega)
  · obtain rfl : i = n := by omega
    repeat' (first | (refine TL.isOp ?_; first | (refine TL.isBin ?_; refine TL.cmpG rfl rfl rfl rfl (fun hc => ?_) (fun hc => ?_) <;> (try (first | (exfalso; omega) | exact absurd rfl hc))) | (apply TL.ev; (case hd => rfl); (case h => (first | exact ev_simple rfl)))) | (refine T.is ?_; first | refine T.seq ?_ | refine T.region ?_ | refine T.cond_f rfl ?_ | refine T.exit ?_ | refine T.ret ?_) | (refine G.is ?_; first | refine G.next ?_ | refine G.blockE ?_ | refine G.thenE ?_) | refine TL.nil ?_)
    refine G.ret1 rfl rfl ⟨b10, zl, rfl, hzl, hF.var .head, Fr.lk hF (by repeat (first | exact memH | apply memT)), hF.ext, ?_⟩
    rcases hF.lo .head with h | h
    · exact h
    · exact h.elim
/-- a row that a walk hands over, known whole -/
structure RwV where
  i : Nat
  b : Nat
  n : Nat
  l : List IV
def rwA (x : RwV) : List Value := [.int .i64 (x.i : Int), .slice (some ⟨x.b, 0, none⟩) x.n x.n]
set_option maxRecDepth 100000 in
set_option maxHeartbeats 8000000 in
theorem lines_iter2 (b r c K k : Nat) (A : Option Addr) (l : List IV) (F : Nat → Nat → Int) (hK : K ≤ 35184372088832) :
    Iter Tryz.prog 119 [.pointer (some ⟨b, 0, none⟩)] rwA r (fun W => Vr W.heap b 24 [.int .i64 (r : Int), .int .i64 (c : Int), .slice A (r * c) k] ∧ LM W.heap ⟨r, c, A, r * c, k, l⟩ r c F K)
      (fun i x Wb W => x.i = i ∧ x.n = c ∧ x.l.length = c ∧ Vr W.heap x.b 51 (x.l.flatMap ivc) ∧ LsK c x.l (F i) K W.heap ∧ Wb.heap.size ≤ x.b) := by
  intro l' J Jx W hJ hJx hIt h0 hY
  obtain ⟨hV, hL⟩ := hIt
  have hr := hL.sh.r64
  have hc64 := hL.sh.c64
  have hkk := hL.s.cap
  dsimp only at hkk
  have hm := mul64 hr hc64
  refine (enterM Tryz.func119 rfl rfl rfl (fun _ h => by obtain ⟨⟨v, hv⟩, _⟩ := h; cases hv) ?_).out
  have hF := Fr.refl W
  repeat' (first | (refine TL.isOp ?_; first | (apply TL.ev; (case hd => rfl); (case h => (first | exact ev_simple rfl | (apply Ev.isLoad; first | exact ev_loadV rfl (hV.ext hF.ext) rfl) | exact ev_fieldAddr rfl)))) | (refine G.is ?_; first | refine G.nextL ?_ | refine G.nextI ?_) | refine TL.nil ?_ | (refine TI.is ?_; first | refine TI.seq ?_ | refine TI.regionI ?_ | refine TI.block ?_) | (refine TLI.is ?_; first | refine TLI.nil ?_ | refine TLI.step rfl ?_))
  refine TI.loop (α := Nat) (fun i => [(0, .func (.yield l') #[] #[]), (1, .pointer (some ⟨b, 0, none⟩)), (5, .int .i64 (r : Int)), (6, .int .i64 (i : Int))])
    (fun i W' => i ≤ r ∧ J i W' ∧ Vr W'.heap b 24 [.int .i64 (r : Int), .int .i64 (c : Int), .slice A (r * c) k] ∧ LM W'.heap ⟨r, c, A, r * c, k, l⟩ r c F K) (fun i => r - i) 0 (by repeat (first | exact Sub.nil _ | refine Sub.cons rfl ?_ | refine Sub.cons' rfl (int_congr (by omega)) ?_)) ⟨Nat.zero_le _, h0, hV, hL⟩ ?_
  clear hF hV hL h0
  rintro i W1 ⟨hi, hj, hV, hL⟩
  have hF := Fr.refl W1
  rcases Nat.lt_or_ge i r with hin | hin
  · have hrow : i * c + c ≤ r * c := by have := Nat.mul_le_mul_right c (show i + 1 ≤ r from hin); rw [Nat.add_mul, Nat.one_mul] at this; exact this
    have hi1 : (i + 1) * c = i * c + c := by rw [Nat.add_mul, Nat.one_mul]
    have hsr : Sm 2 ivc W1.heap W1.heap.size (cutM 2 A k (i * c)) c (k - i * c) ((l.drop (i * c)).take c) := by
      have := hL.s.dropTake (i := i * c) (j := (i + 1) * c) (m := k) (m' := k - i * c) (by omega) (by dsimp only; omega) hkk (by omega)
      rwa [row_sub] at this
    have hgr : ∀ y ∈ (l.drop (i * c)).take c, GI W1.heap y ∧ y.m.n ≤ K := fun y hy => hL.gm.g y (List.mem_of_mem_drop (List.mem_of_mem_take hy))
    have hZ : ∀ q, q < c → ival (((l.drop (i * c)).take c).getD q default) = F i q := fun q hq => by
      have e1 : ((l.drop (i * c)).take c).getD q default = l.getD (i * c + q) default := by simp [List.getD, List.getElem?_take, hq, List.getElem?_drop]
      rw [e1]; exact (hL.g i q hin hq).1.val
    repeat' (first | (refine TL.isOp ?_; first | (refine TL.isCall ?_; refine TL.call rfl rfl ?_; first | (refine (each_vr _ _ c _ _ (hsr.ext hF.ext).size (by omega) 85 [] inferInstance _ K (least_each _ _ K (fun y hy => ⟨(hgr y hy).1.ext hF.ext, (hgr y hy).2⟩) hK)).mono ?_; rintro _ wl ⟨bl, ll, rfl, hlen, hVl, hL0, hE, hbl⟩; have hLL := hL0.congr (Z' := F i) hZ; replace hbl := Nat.le_trans hF.ext.size hbl; replace hF := hF.exts hE; clear hE hL0; refine Back.mk ?_)) | (refine TL.isBin ?_; refine TL.cmpG rfl rfl rfl rfl (fun hc => ?_) (fun hc => ?_) <;> (try (first | (exfalso; omega) | exact absurd rfl hc))) | (apply TL.ev; (case hd => rfl); (case h => (first | exact ev_simple rfl | (apply Ev.isBin; first | exact ev_arN rfl rfl rfl (by omega)) | (apply Ev.isLoad; first | exact ev_loadV rfl (hV.ext hF.ext) rfl) | exact ev_fieldAddr rfl | exact ev_rowSl rfl rfl rfl (by omega))))) | (refine G.is ?_; first | refine G.nextL ?_ | refine G.nextI ?_ | refine G.blockN ?_ | refine G.blockR ?_ | refine G.thenR ?_) | refine TL.nil ?_ | (refine TI.is ?_; first | refine TI.seq ?_ | refine TI.regionI ?_ | refine TI.block ?_ | refine TI.cond_t rfl ?_ | refine TI.cond_f rfl ?_ | refine TI.ret ?_ | refine TI.skip ?_) | (refine TLI.is ?_; first | refine TLI.nil ?_ | (refine TLI.yield rfl rfl rfl ?_; refine Eng.YieldAt.weak (hY i ⟨i, bl, c, ll⟩ W1 _ hin hj ⟨hV, hL⟩ hF.ext ⟨rfl, rfl, hlen, hVl, hLL, hbl⟩) ?_; rintro e W2 (⟨rfl, hj2, hV2, hL2⟩ | ⟨rfl, hx2⟩) <;> refine ⟨_, rfl, ?_⟩ <;> clear hF <;> have hF := Fr.refl W2) | refine TLI.step rfl ?_))
    · exact G.again (i + 1) (by repeat (first | exact Sub.nil _ | refine Sub.cons rfl ?_ | refine Sub.cons' rfl (int_congr (by omega)) ?_)) ⟨by omega, hj2, hV2, hL2⟩ (by omega)
    · exact G.retM0 rfl ⟨⟨_, rfl⟩, .inr hx2⟩
  · obtain rfl : i = r := by omega
    repeat' (first | (refine TL.isOp ?_; first | (refine TL.isBin ?_; refine TL.cmpG rfl rfl rfl rfl (fun hc => ?_) (fun hc => ?_) <;> (try (first | (exfalso; omega) | exact absurd rfl hc)))) | (refine G.is ?_; first | refine G.nextL ?_ | refine G.nextI ?_ | refine G.blockE ?_ | refine G.thenE ?_) | refine TL.nil ?_ | (refine TI.is ?_; first | refine TI.seq ?_ | refine TI.regionI ?_ | refine TI.cond_f rfl ?_ | refine TI.exit ?_) | (refine TLI.is ?_; first | refine TLI.nil ?_ | refine TLI.step rfl ?_))
    exact G.endM0 rfl ⟨⟨_, rfl⟩, .inl ⟨hj, hV, hL⟩⟩
end Go.Proofs.YtdhmhjbmkimplaaGreat

namespace Go.Proofs.YtdhmhjbmkimplaaGreat
open Go Go.Eng Go.Proofs Go.NatM Go.RowKit

theorem G.round {N : Fm} {σ : Store} {I : World → Prop} {Ix : Code → World → Prop} {W w : World} (hK : KeepsOthers W w) (h : I w) : G N .normal (RPost I Ix W) σ w := by
  unfold G; exact fun a ha => ⟨hK, h⟩
theorem It.cx {W W' : World} {B b : Nat} {t : TypeId} {cs : List Value} {x : MV} {r c K : Nat} {F : Nat → Nat → Int} (h : Vr W.heap b t cs ∧ LM W.heap x r c F K) (hc : Cx B W W') : Vr W'.heap b t cs ∧ LM W'.heap x r c F K :=
  ⟨by have h1 := h.1; unfold Vr at h1 ⊢; exact (hc.cells _ _ h1 rfl).trans h1, h.2.de hc.de⟩
section
variable {S : Nat → Prop} {w0 w w' : World} {L : List VB} {D : List DP}
/-- a matrix whose box is known whole -/
theorem Fr.addBoxLM (h : Fr w0 w L D S) (hE : Ext w w') {b : Nat} {t : TypeId} {cs : List Value} {x : MV} {r c K : Nat} {F : Nat → Nat → Int} (hb : w.heap.size ≤ b) (hV : Vr w'.heap b t cs) (hc : cs.all flagless = true) (g : LM w'.heap x r c F K) (hf : MF w x) : Fr w0 w' (⟨b, t, cs⟩ :: L) (dpLM x r c F K :: D) S := by
  refine (h.newGe hb hV hE).add _ (by unfold dpLM; exact g) fun v hv hk => ?_
  have hk' : fpA x.A x.n v.b := by unfold dpLM at hk; exact hk
  rcases List.mem_cons.1 hv with rfl | hv
  · exact g.s.fp_flag hk' hV hc
  · have h1 := (h.vars v hv).2.lt
    have h2 := mf_fp hf _ hk'
    omega
end
/-- lines that have been made -/
def RetLn (w : World) (n c : Nat) (F : Nat → Nat → Int) (K : Nat) (e : Ending) (w' : World) : Prop :=
  ∃ (g : Nat) (R : List RB), e = .returned (.slice (some ⟨g, 0, none⟩) n n) ∧ Rws n c R ∧ Fr w w' (lns g c R []) [dpLn n c R F K]
/-- lines under way -/
def LnS (w w' : World) (b3 g bm : Nat) (A : Option Addr) (k : Nat) (l : List IV) (r c : Nat) (F : Nat → Nat → Int) (K i : Nat) : Prop :=
  ∃ (R : List RB) (zs : List Value), Rws i c R ∧ i ≤ r ∧ zs.length = (r - i) * 1 ∧ zs.all noU64 = true ∧
    Fr w w' (⟨b3, 84, [.slice (some ⟨g, 0, none⟩) i r]⟩ :: ⟨g, 22, R.flatMap (fun x => [rowv c x]) ++ zs⟩ :: ⟨bm, 24, [.int .i64 (r : Int), .int .i64 (c : Int), .slice A (r * c) k]⟩ :: R.map rowVB) [dpLn i c R F K, dpLM ⟨r, c, A, r * c, k, l⟩ r c F K]
theorem LnS.cx {w w' W : World} {b3 g bm : Nat} {A : Option Addr} {k : Nat} {l : List IV} {r c : Nat} {F : Nat → Nat → Int} {K i B : Nat} (h : LnS w w' b3 g bm A k l r c F K i) (hc : Cx B w' W) (hB : w.heap.size ≤ B) : LnS w W b3 g bm A k l r c F K i := by
  obtain ⟨R, zs, h1, h2, h3, h4, hF⟩ := h
  exact ⟨R, zs, h1, h2, h3, h4, hF.cx hc hB⟩
theorem rows_noV (c : Nat) (R : List RB) (zs : List Value) (hz : zs.all noU64 = true) : (R.flatMap (fun x => [rowv c x]) ++ zs).all noU64 = true := by
  rw [List.all_append, hz, Bool.and_true, List.all_eq_true]
  intro v hv
  obtain ⟨y, _, hy⟩ := List.mem_flatMap.1 hv
  rw [List.mem_singleton.1 hy]; rfl
theorem LsR.snoc {H : Array Obj} {n c K : Nat} {R : List RB} {F : Nat → Nat → Int} {x : RB} (h : LsR n c R F K H) (hn : R.length = n) (hx : LsK c x.l (F n) K H) : LsR (n + 1) c (R ++ [x]) F K H := by
  intro i hi
  rcases Nat.lt_or_ge i n with h1 | h1
  · have e1 : (R ++ [x]).getD i default = R.getD i default := by simp only [List.getD]; rw [List.getElem?_append_left (by omega)]
    rw [e1]; exact h i h1
  · obtain rfl : i = n := by omega
    have e1 : (R ++ [x]).getD i default = x := by subst hn; simp [List.getD]
    rw [e1]; exact hx
theorem Rws.snoc {n c : Nat} {R : List RB} {x : RB} (h : Rws n c R) (hx : x.l.length = c) : Rws (n + 1) c (R ++ [x]) :=
  ⟨by simp [h.n], fun y hy => by
    rcases List.mem_append.1 hy with h1 | h1
    · exact h.c y h1
    · rw [List.mem_singleton.1 h1]; exact hx⟩
theorem drop_noV {zs : List Value} (h : zs.all noU64 = true) (n : Nat) : (zs.drop n).all noU64 = true := List.all_eq_true.2 fun v hv => List.all_eq_true.1 h v (List.mem_of_mem_drop hv)
theorem Fr.make1 {P : Program} {N : Fm} {Q : Exit → Act → World → Prop} {σ : Store} {S : Nat → Prop} {w0 w : World} {L : List VB} {D : List DP} {ops : Array Oper} {d : Nat} {t : TypeId} {pos : String} {af : Array Edge} {rest : List Oper} (hF : Fr w0 w L D S) {x y : Operand} {ty e : TypeId} [hT : USlice P ty e] {v : Value} {b1 : Nat} [hS : USize P e v 1 b1] (hzc : v.cells = #[v]) {k k' : IntKind} {z1 z2 : Int} {n c : Nat} [e1 : IsN z1 n] [e2 : IsN z2 c]
    (hx : Eng.look σ x = some (.int k z1)) (hy : Eng.look σ y = some (.int k' z2)) (hd : Nat.blt d N.n = true) (hn : n ≤ c) (hc : b1 * c ≤ 281474976710656 ∧ c ≤ 9223372036854775807)
    (K : ∀ w' b, Fr w0 w' (⟨b, e, List.replicate c v⟩ :: L) D S → TL P N .seq ops Q rest ((d, .slice (some ⟨b, 0, none⟩) n c) :: σ) w') :
    TL P N .seq ops Q (⟨some d, .makeSlice ty x y, t, pos, af, none⟩ :: rest) σ w :=
  TL.makeV hzc hx hy hd hn hc fun w' b hb hB hE _ => K w' b (hF.new hb (by unfold Bk at hB; unfold Vr; simpa using hB) hE)
set_option maxRecDepth 100000 in
set_option maxHeartbeats 8000000 in
theorem linesOf_ok (w : World) (x : MV) (r c K : Nat) (gx : GM w.heap x r c K) (hK : K ≤ 35184372088832) : Cl Tryz.prog 44 #[.agg (mvc x).toArray] w (RetLn w r c (ent x c) K) := by
  have hl := fun w1 (hE : Ext w w1) => lines_ok w1 x r c K (gx.ext hE) hK
  have hs0 := gx.sh
  generalize ent x c = F at *
  obtain ⟨xr, xc, A1, n1, k1, l1⟩ := x
  obtain ⟨hr1, hc1, hr, hcc, hn1⟩ := hs0
  dsimp only at hr1 hc1 hn1
  subst hr1 hc1 hn1
  refine enterM Tryz.func44 rfl rfl rfl (fun _ h => by obtain ⟨g, R, ha, _⟩ := h; cases ha) ?_
  have hF := Fr.refl w
  repeat' (first | (refine TL.isOp ?_; first | (refine TL.isCall ?_; refine TL.call rfl rfl ?_; first | (refine (hl _ hF.ext).mono ?_; rintro _ w1 ⟨bm, A, k, l, rfl, hVm, hLm, hE, hbm, hMf⟩; replace hF := Fr.addBoxLM hF hE hbm hVm rfl hLm hMf; clear hE hMf hVm; refine Back.mk ?_)) | (apply TL.ev; (case hd => rfl); (case h => (first | exact ev_simple rfl | (apply Ev.isLoad; first | exact ev_loadFr hF rfl (by refine ⟨?_, ?_⟩; (focus (repeat (first | exact InV.head | apply InV.tail))); rfl) | exact ev_loadAFr hF rfl (by refine ⟨?_, ?_⟩; (focus (repeat (first | exact InV.head | apply InV.tail))); rfl)) | exact ev_fieldAddr rfl))) | (refine TL.storeFr hF rfl rfl rfl rfl (by refine ⟨?_, ?_⟩; (focus (repeat (first | apply SetV.head | apply SetV.tail))); rfl) rfl ?_; clear hF; intro ws hF) | (refine TL.boxAFr hF (d := 1) (cs := [.int .i64 (r : Int), .int .i64 (c : Int), .slice A1 (r * c) k1]) rfl rfl ?_; clear hF; intro w1 b1 hF) | (refine TL.allocFr hF (d := 3) rfl rfl ?_; clear hF; intro w3 b3 hF) | (refine Fr.make1 hF (d := 8) rfl rfl rfl rfl (Nat.zero_le _) (by omega) ?_; clear hF; intro w8 b8 hF)) | (refine G.is ?_; first | refine G.nextI ?_) | refine TL.nil ?_ | (refine TI.is ?_; first | refine TI.seq ?_ | refine TI.region rfl ?_ | refine TI.block ?_))
  have hE1 := hF.ext
  have hS0 : LnS w w1 b3 b8 bm A k l r c F K 0 := ⟨[], List.replicate r (.slice none 0 0), ⟨rfl, fun _ h => (by cases h)⟩, Nat.zero_le _, by simp, by simp [List.all_eq_true, noU64], by
    refine Fr.perm ((Fr.addLn hF (n := 0) (c := c) (R := []) (F := F) (K := K) (fun i hi => absurd hi (Nat.not_lt_zero _))).weak (L := [⟨bm, 24, [.int .i64 (r : Int), .int .i64 (c : Int), .slice A (r * c) k]⟩, ⟨b3, 84, [.slice (some ⟨b8, 0, none⟩) 0 r]⟩, ⟨b8, 22, List.replicate r (.slice none 0 0)⟩]) (by repeat (first | exact List.Sublist.refl _ | apply List.Sublist.cons_cons | apply List.Sublist.cons)) allR) ?_
    simp only [List.map_nil, List.flatMap_nil, List.nil_append]
    exact (List.Perm.trans ((List.Perm.swap _ _ _).cons _) (List.Perm.swap _ _ _))⟩
  refine TI.rangeFunc (lines_iter2 bm r c K k A l F hK) rfl inferInstance (fun _ => rfl) rfl ⟨hF.var (by repeat (first | exact InV.head | apply InV.tail)), hLm⟩ (fun W W' h hc => It.cx h hc) (fun i W => LnS w W b3 b8 bm A k l r c F K i) (fun _ _ => False) (fun i W W' h hc => h.cx hc hE1.size) (fun _ _ _ h _ => h) hS0 ?_ ?_ (fun _ _ _ _ _ h => h.elim)
  · rintro L j ⟨i, xb, xn, xl⟩ Wb W hi hL hlp ⟨R, zs, hR, hir, hzs, hzn, hF⟩ hIt hEb ⟨e1, e2, hlen, hVx, hLx, hxb⟩
    dsimp only at e1 e2 hlen hVx hLx hxb
    subst e1 e2
    have hB := hE1.size
    clear hS0
    have hF1 := (Fr.addLK (hF.newGe hxb hVx hEb) hLx)
    clear hF
    repeat' (first | (refine TL.isOp ?_; first | (apply TL.ev; (case hd => rfl); (case h => (first | exact ev_simple rfl)))) | refine TL.nil ?_ | (refine TI.is ?_; first | refine TI.region rfl ?_))
    refine G.begun ⟨Nat.le_refl _, fun _ _ h _ => h⟩ fun w2 hc2 hl2 => ?_
    obtain ⟨S, hO, hF⟩ := (hF1.cx hc2 hB).open
    clear hF1
    repeat' (first | (refine TL.isOp ?_; first | (apply TL.ev; (case hd => rfl); (case h => (first | exact ev_simple rfl | (apply Ev.isLoad; first | exact ev_loadFr hF rfl (by refine ⟨?_, ?_⟩; (focus (repeat (first | exact InV.head | apply InV.tail))); rfl))))) | (refine TL.storeFr hF rfl rfl rfl rfl (by refine ⟨?_, ?_⟩; (focus (repeat (first | apply SetV.head | apply SetV.tail))); rfl) rfl ?_; clear hF; intro ws hF) | (refine TL.build1Fr hF (f := rowv xn) (u := ⟨xb, xl⟩) (fun _ => rfl) rfl rfl rfl ?_; clear hF; intro wl bl hbl hF hSl hEl) | (refine TL.appendAtFr (f := fun x => [rowv xn x]) (l := R) (zs := zs) hF rfl rfl rfl rfl hSl (fun _ => rfl) (fun _ => rfl) rfl rfl hR.n hzs hir (rows_noV _ _ _ hzn) (by omega) (by repeat (first | apply SetV.head | apply SetV.tail)) (fun hle wn hFn => ?_) (fun hgr => absurd hgr (by omega)); clear hF hSl hEl; have hF := hFn; clear hFn)) | (refine G.is ?_; first | refine G.blockN ?_) | refine TL.nil ?_ | (refine TI.is ?_; first | refine TI.region rfl ?_ | refine TI.block ?_))
    have hk := (Fr.ln hF (R := R) (F := F) (K := K) (n := i) (c := xn) (by repeat (first | exact memH | apply memT))).snoc (x := ⟨xb, xl⟩) hR.n (Fr.lk hF (i := xn) (l := xl) (Z := F i) (K := K) (by repeat (first | exact memH | apply memT)))
    have hF0 := Fr.shut hO (Fr.addLn hF hk)
    refine G.round (Fr.others hO hF) ⟨⟨R ++ [⟨xb, xl⟩], zs.drop (1 * 1), hR.snoc hlen, by omega, by rw [List.length_drop]; omega, drop_noV hzn _, ?_⟩, hF.var (by repeat (first | exact InV.head | apply InV.tail)), Fr.lm hF (by repeat (first | exact memH | apply memT))⟩
    refine Fr.perm (hF0.weak (.refl _) (allH (by repeat (first | exact memH | apply memT)) (allH (by repeat (first | exact memH | apply memT)) allN))) ?_
    rw [List.map_append, List.map_cons, List.map_nil]
    have hp : ∀ (a b c d : VB) (l : List VB), (a :: b :: c :: (l ++ [d])).Perm (d :: a :: b :: c :: l) := fun a b c d l => by
      have := (List.perm_append_singleton d (a :: b :: c :: l))
      simpa using this
    exact hp _ _ _ _ _
  · rintro D w2 hD hDw ⟨R, zs, hR, hir, hzs, hzn, hF⟩ hIt
    obtain rfl : zs = [] := List.eq_nil_of_length_eq_zero (by rw [hzs]; omega)
    obtain ⟨S, hO, hF⟩ := hF.open
    repeat' (first | (refine TL.isOp ?_; first | (apply TL.ev; (case hd => rfl); (case h => (first | exact ev_simple rfl | (apply Ev.isLoad; first | exact ev_loadFr hF rfl (by refine ⟨?_, ?_⟩; (focus (repeat (first | exact InV.head | apply InV.tail))); rfl)))))) | (refine G.is ?_; first | refine G.nextI ?_ | refine G.blockN ?_) | refine TL.nil ?_ | (refine TI.is ?_; first | refine TI.seq ?_ | refine TI.region rfl ?_ | refine TI.ret ?_))
    have hD2 := (Fr.others hO hF).same D _ hDw rfl
    have hF1 := (Fr.shut hO hF).cx (Cx.shut hD hD2) hE1.size
    refine G.retK1 rfl rfl hD2 ⟨b8, R, rfl, hR, ?_⟩
    rw [List.append_nil] at hF1
    unfold lns
    rw [List.append_nil]
    exact hF1.weak (.cons _ (.cons_cons _ (.cons _ (.refl _)))) (allH (by repeat (first | exact memH | apply memT)) allN)
theorem Fr.join {S : Nat → Prop} {w0 w w' : World} {L L' : List VB} {D D' : List DP} (h : Fr w0 w L D S) (h' : Fr w w' L' D') (hfp : ∀ d ∈ D', ∀ k, ¬ d.fp k) : Fr w0 w' (L' ++ L) (D' ++ D) S := by
  have hE := h'.ext
  have h1 := h.exts hE
  refine ⟨h1.exs, fun v hv => ?_, List.pairwise_append.2 ⟨h'.dist, h.dist, fun x hx y hy e => ?_⟩, fun d hd => ?_, fun v hv d hd => ?_⟩
  · rcases List.mem_append.1 hv with hv | hv
    · exact ⟨.inl (Nat.le_trans h.exs.size ((h'.vars v hv).1.resolve_right id)), (h'.vars v hv).2⟩
    · exact h1.vars v hv
  · have a1 := (h'.vars x hx).1.resolve_right id
    have a2 := (h.vars y hy).2.lt
    omega
  · rcases List.mem_append.1 hd with hd | hd
    · exact h'.data d hd
    · exact h1.data d hd
  · rcases List.mem_append.1 hd with hd | hd
    · exact hfp d hd _
    · rcases List.mem_append.1 hv with hv | hv
      · intro hk
        have a1 := (h'.vars v hv).1.resolve_right id
        have a2 := d.lt _ _ (h.data d hd) hk
        omega
      · exact h.apart v hv d hd
end Go.Proofs.YtdhmhjbmkimplaaGreat

namespace Go.Proofs.YtdhmhjbmkimplaaGreat
open Go Go.Eng Go.Proofs Go.NatM Go.RowKit

section
variable {S T : Nat → Prop} {w0 w w' : World} {L L1 L2 L1' : List VB} {D : List DP}
/-- the blocks of L1 have been written by a callee, and told in another order -/
theorem Fr.wroteP (h : Fr w0 w (L1 ++ L2) D S) (hE : Exs (fun k => ∃ v ∈ L1, v.b = k) w w') (hc : ∀ v ∈ L1, v.cs.all noU64 = true) (hb : (L1'.map (·.b)).Perm (L1.map (·.b))) (hV : ∀ v ∈ L1', Vr w'.heap v.b v.t v.cs) : Fr w0 w' (L1' ++ L2) D S := by
  have hd := h.dist
  rw [List.pairwise_append] at hd
  have hmb : ∀ v ∈ L1', ∃ u ∈ L1, u.b = v.b := fun v hv => by
    have : v.b ∈ L1'.map (·.b) := List.mem_map_of_mem hv
    rw [hb.mem_iff, List.mem_map] at this
    exact this
  refine ⟨?_, ?_, ?_, ?_, ?_⟩
  · refine h.exs.then hE fun i hi ⟨v, hv, e⟩ => ?_
    subst e
    rcases (h.vars v (List.mem_append_left _ hv)).1 with h1 | h1
    · omega
    · exact h1
  · intro v hv
    rcases List.mem_append.1 hv with hv | hv
    · obtain ⟨u, hu, e⟩ := hmb v hv
      exact ⟨by rw [← e]; exact (h.vars u (List.mem_append_left _ hu)).1, hV v hv⟩
    · have h1 := h.vars v (List.mem_append_right _ hv)
      refine ⟨h1.1, ?_⟩
      have h2 := h1.2
      unfold Vr at h2 ⊢
      exact (hE.block v.b h1.2.lt (fun ⟨u, hu, e⟩ => hd.2.2 u hu v hv e)).trans h2
  · rw [List.pairwise_append]
    refine ⟨?_, hd.2.1, fun x hx y hy => ?_⟩
    · have h1 : (L1.map (·.b)).Pairwise (· ≠ ·) := List.pairwise_map.2 hd.1
      exact List.pairwise_map.1 ((hb.pairwise_iff (fun h => Ne.symm h)).2 h1)
    · obtain ⟨u, hu, e⟩ := hmb x hx
      rw [← e]; exact hd.2.2 u hu y hy
  · intro d hdm
    refine d.st _ _ ⟨hE.size, fun k cs t x hk hor => hE.block k (Array.getElem?_eq_some_iff.1 hk).1 fun ⟨v, hv, e⟩ => ?_⟩ (h.data d hdm)
    subst e
    rcases hor with hf | hn
    · exact h.apart v (List.mem_append_left _ hv) d hdm hf
    · have h1 := (h.vars v (List.mem_append_left _ hv)).2
      unfold Vr at h1
      rw [h1] at hk
      cases hk
      simp only [List.toList_toArray] at hn
      rw [hc v hv] at hn
      cases hn
  · intro v hv d hdm
    rcases List.mem_append.1 hv with hv | hv
    · obtain ⟨u, hu, e⟩ := hmb v hv
      rw [← e]; exact h.apart u (List.mem_append_left _ hu) d hdm
    · exact h.apart v (List.mem_append_right _ hv) d hdm
theorem Fr.self (h : Fr w0 w L D S) : Fr w w L D (fun k => ∃ v ∈ L, v.b = k) := ⟨Exs.refl _ _, fun v hv => ⟨.inr ⟨v, hv, rfl⟩, (h.vars v hv).2⟩, h.dist, h.data, h.apart⟩
end
theorem lns_app (g c : Nat) (R : List RB) (post : List VB) : lns g c R [] ++ post = lns g c R post := by unfold lns; simp
theorem lns_noV (g c : Nat) (R : List RB) : ∀ v ∈ lns g c R [], v.cs.all noU64 = true := by
  intro v hv
  unfold lns at hv
  rw [List.append_nil] at hv
  rcases List.mem_cons.1 hv with rfl | hv
  · have := rows_noV c R [] rfl
    rwa [List.append_nil] at this
  · obtain ⟨x, _, rfl⟩ := List.mem_map.1 hv
    exact ivc_noV x.l
/-- what a step does to the rows -/
def stepF (s : SP) (F : Nat → Nat → Int) : Nat → Nat → Int :=
  if s.kind = 1 then fun p q => F (if p = s.j.toNat then s.i.toNat else if p = s.i.toNat then s.j.toNat else p) q
  else if s.kind = 2 then fun p q => if p = s.i.toNat then - F s.i.toNat q else F p q
  else fun p q => if p = s.i.toNat then ival s.k * F s.j.toNat q + F s.i.toNat q else F p q
theorem on_any {w0 w : World} {S : Nat → Prop} {g n c K : Nat} {R : List RB} {F : Nat → Nat → Int} {post : List VB} {D : List DP} {f : FuncId} {v : Value} {K' : Nat} {F' : Nat → Nat → Int} (hF : Fr w0 w (lns g c R post) D S) (hm : dpLn n c R F K ∈ D)
    (h : ∀ S', Fr w w (lns g c R []) [dpLn n c R F K] S' → Cl Tryz.prog f #[v, .slice (some ⟨g, 0, none⟩) n n] w (RetOn w g n c R F' K' S')) :
    Cl Tryz.prog f #[v, .slice (some ⟨g, 0, none⟩) n n] w (fun e w' => e = .returned (.tuple #[]) ∧ ∃ R', Rws n c R' ∧ Fr w0 w' (lns g c R' post) (dpLn n c R' F' K' :: D) S) := by
  have h1 : Fr w0 w (lns g c R []) [dpLn n c R F K] S := hF.weak (by unfold lns; exact List.Sublist.cons_cons _ (List.Sublist.append (List.Sublist.refl _) (List.nil_sublist _))) (allH hm allN)
  refine (h _ (Fr.self h1)).mono ?_
  rintro _ w' ⟨rfl, R', hR', hp, hF'⟩
  refine ⟨rfl, R', hR', ?_⟩
  have hF2 : Fr w0 w (lns g c R [] ++ post) D S := by rw [lns_app]; exact hF
  have hpm : ((lns g c R' []).map (·.b)).Perm ((lns g c R []).map (·.b)) := by
    unfold lns
    simp only [List.append_nil, List.map_cons, List.map_map]
    exact (hp : (R'.map (·.b)).Perm (R.map (·.b))).cons g
  have h3 := Fr.wroteP hF2 hF'.exs (lns_noV g c R) hpm (fun v hv => (hF'.vars v hv).2)
  rw [lns_app] at h3
  exact Fr.addLn h3 (Fr.ln hF' memH)
section
variable {N : Fm} {Q : Exit → Act → World → Prop} {σ : Store} {S : Nat → Prop} {w0 w : World} {D : List DP} {post : List VB} {ops : Array Oper} {d : Nat} {t : TypeId} {pos : String} {af : Array Edge} {rest : List Oper}
/-- a step that fits, done on lines through its move -/
theorem TL.onMv {x : Operand} {xs : List Operand} {tys : Array TypeId} {s : SP} {xv : IV} {g n c K Kk : Nat} {R : List RB} {F : Nat → Nat → Int} (hF : Fr w0 w (lns g c R post) D S) (hm : dpLn n c R F K ∈ D) (hr : Eng.look σ x = some (mvv s xv)) (hx : looks σ xs = some [.slice (some ⟨g, 0, none⟩) n n]) (hd : Nat.blt d N.n = true)
    (hfit : fits n s) (hR : Rws n c R) (hc : c ≤ 64) (hK : K ≤ 4398046511104) (hKk : Kk ≤ 4398046511104) (hv : s.kind = 3 → LI w.heap (ival s.k) xv ∧ xv.m.n ≤ Kk)
    (Kt : ∀ (w' : World) (R' : List RB), Rws n c R' → Fr w0 w' (lns g c R' post) (dpLn n c R' (stepF s F) (Kk + K + 1) :: D) S → TL Tryz.prog N .seq ops Q rest ((d, .tuple #[]) :: σ) w') :
    TL Tryz.prog N .seq ops Q (⟨some d, .call { callee := .invoke x "trellis/steps.on", args := xs.toArray, argTypes := tys }, t, pos, af, none⟩ :: rest) σ w := by
  have fin : ∀ (F' : Nat → Nat → Int) (K' : Nat) (v : Value) (f : FuncId), F' = stepF s F → K' ≤ Kk + K + 1 →
      (∀ S', Fr w w (lns g c R []) [dpLn n c R F K] S' → Cl Tryz.prog f #[v, .slice (some ⟨g, 0, none⟩) n n] w (RetOn w g n c R F' K' S')) → Cl Tryz.prog f (v :: [.slice (some ⟨g, 0, none⟩) n n]).toArray w (Back Tryz.prog N ops Q rest d σ) := by
    intro F' K' v f e hK' h
    subst e
    refine (on_any hF hm h).mono ?_
    rintro _ w' ⟨rfl, R', hR', hF'⟩
    refine Back.mk (Kt w' R' hR' ?_)
    exact Fr.addLn (hF'.weak (List.Sublist.refl _) (fun d hd => List.mem_cons_of_mem _ hd)) ((Fr.ln hF' memH).mono hK')
  unfold mvv at hr
  rcases hfit with ⟨h1, ⟨a1, a2⟩, b1, b2⟩ | ⟨h1, a1, a2⟩ | ⟨h1, ⟨a1, a2⟩, ⟨b1, b2⟩, hne⟩
  · rw [if_pos h1] at hr
    obtain ⟨i, hi⟩ := Int.eq_ofNat_of_zero_le a1
    obtain ⟨j, hj⟩ := Int.eq_ofNat_of_zero_le b1
    refine TL.callI hr hx hd (fin _ K _ _ (by unfold stepF; rw [if_pos h1]) (by omega) fun S' h => ?_)
    rw [hi, hj]
    exact swap_on w g n c i j K R F S' hR (by omega) (by omega) h
  · rw [if_neg (by omega), if_pos h1] at hr
    obtain ⟨i, hi⟩ := Int.eq_ofNat_of_zero_le a1
    refine TL.callI hr hx hd (fin _ K _ _ (by unfold stepF; rw [if_neg (by omega), if_pos h1]) (by omega) fun S' h => ?_)
    rw [hi]
    exact neg_on w g n c i K R F S' hR (by omega) hc (by omega) h
  · rw [if_neg (by omega), if_neg (by omega), if_pos h1] at hr
    obtain ⟨i, hi⟩ := Int.eq_ofNat_of_zero_le a1
    obtain ⟨j, hj⟩ := Int.eq_ofNat_of_zero_le b1
    obtain ⟨hv1, hv2⟩ := hv h1
    refine TL.callI hr hx hd (fin _ (Kk + K + 1) _ _ (by unfold stepF; rw [if_neg (by omega), if_neg (by omega)]) (by omega) fun S' h => ?_)
    rw [hi, hj, ← hv1.val]
    have := add_on w g n c i j K Kk xv R F S' hR (by omega) (by omega) (by omega) hc hK hv2 hKk (Fr.addGI h hv1.g)
    exact this
end
/-- Check's answer -/
def RetCk (w : World) (p : Prop) (e : Ending) (w' : World) : Prop := ∃ z err : Int, e = .returned (.tuple #[.int .i64 z, .int .i64 err]) ∧ (err = 0 ∨ err = 3) ∧ (err = 0 ↔ p) ∧ Ext w w'
def isSideI (z : Int) : Prop := 0 ≤ z ∧ z ≤ 64
def FitAll (n : Int) (L : List SP) : Prop := isSideI n ∧ ∀ s ∈ L, fits n.toNat s
end Go.Proofs.YtdhmhjbmkimplaaGreat
