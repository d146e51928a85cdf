/- Layer 10: the order of places: cmp.Compare, cmp.Or, the function that Places hands to the sort; worlds exactly. Layer 10: rows of places as the sort's contract names them. Layer 10: the contract of Places, over one of the sort. The sort of places, by the shelf: its contract laid at this translation. Layer 10: the sort of places. Layer 10: the contract of byRow. Layer 10: the sums of a product, in plain words. Layer 10: the contract of Mul (printed by genmul10.py). Layer 10: contracts over grids as functions. Layer 10: small things for SparseFull: the integer -1, products of one row, doubled numbers. Layer 10: grids as functions from places to numbers, with the number of places; the contracts in these words. Layer 10: products, sums and transposes of functions with finitely many places; when they may be refused. Layer 10: product, sum, transpose and places of grids as functions. Layer 10: the law's helpers: alike, places, same, refusal, digits. Layer 10: the law SparseFull. Layer 10: the law's digits. Layer 10: the law's laid. Range over a function whose rounds write maps (EngR's rule, with what rounds keep told more narrowly). Layer 10: sparse.Of. Regions that draw their order, in a round's frame. -/
import Derived.Test.YtlpheckjogphmaaPd10
import Derived.Sort.Grow
import Derived.Shelf.GgSortFunc.InsertionK
import Derived.Shelf.SlSortCmp.WholeK
import Derived.Test.YtlpheckjogphmaaProg
import Derived.Test.YtlpheckjogphmaaPd7
import Derived.Test.YtlpheckjogphmaaPd9
import Derived.Test.YtlpheckjogphmaaPd4
import Derived.Test.YtlpheckjogphmaaPd8
import Derived.Test.YtlpheckjogphmaaPd3
import Derived.OrdersIn
set_option linter.unusedVariables false
set_option linter.unusedSimpArgs false
set_option linter.unusedSectionVars false
namespace Go.Eng
open Go Go.Proofs Go.NatM Go.RowKit
/-- blocks and draws more -/
structure Gx (w w' : World) : Prop where
  ext : Ext w w'
  drawn : w.drawn ≤ w'.drawn
theorem Gx.refl (w : World) : Gx w w := ⟨Ext.refl w, Nat.le_refl _⟩
theorem Gx.trans {a b c : World} (h : Gx a b) (k : Gx b c) : Gx a c := ⟨h.ext.trans k.ext, Nat.le_trans h.drawn k.drawn⟩
theorem Gx.alloc (w : World) (o : Obj) : Gx w (w.alloc o) := ⟨ext_alloc w o, Nat.le_refl _⟩
theorem Gx.drewN (w : World) (n : Nat) : Gx w (w.drewN n) := ⟨ext_drewN w n, Nat.le_add_right _ _⟩
theorem Gx.grow {w w' : World} (h : Gx w w') : ∃ q os', w' = Go.Sort.grow (w.drewN q) os' := by
  refine ⟨w'.drawn - w.drawn, w'.heap.extract w.heap.size w'.heap.size, ?_⟩
  obtain ⟨⟨h1, h2, h3, h4, h5⟩, h6⟩ := h
  obtain ⟨hp, tp, dr, os, out⟩ := w'
  simp only at h1 h2 h3 h4 h5 h6
  unfold Go.Sort.grow World.drewN
  simp only [World.mk.injEq]
  refine ⟨?_, h2, by omega, h1, h3⟩
  apply Array.ext_getElem?
  intro k
  rw [Array.getElem?_append]
  by_cases hk : k < w.heap.size
  · rw [if_pos hk, h5 k hk]
  · rw [if_neg hk, Array.getElem?_extract]
    split
    · congr 1; omega
    · rename_i hn
      rw [Array.getElem?_eq_none]; omega
section
variable {P : Program} {N : Fm} {Q : Exit → Act → World → Prop} {σ : Store} {w : World} {ops : Array Oper} {d : Nat} {t : TypeId} {pos : String} {af : Array Edge} {rest : List Oper}
theorem TL.boxAX {x : Operand} {ty : TypeId} {cs : List Value} (hx : look σ x = some (.agg cs.toArray)) (hd : Nat.blt d N.n = true)
    (K : ∀ w' b, Vr w'.heap b ty cs → Gx w w' → TL P N .seq ops Q rest ((d, .pointer (some ⟨b, 0, none⟩)) :: σ) w') :
    TL P N .seq ops Q (⟨some d, .box ty x, t, pos, af, none⟩ :: rest) σ w := by
  refine TL.op (w' := w.alloc (.cells cs.toArray ty)) (fun ρ hρ => ?_) hd (K _ w.heap.size (by unfold Vr; rw [heap_alloc]) (Gx.alloc ..))
  simp [execOp, hρ x _ hx, Instr.box, newVar, newRow, Value.cells]
theorem TL.build2X {x y : Operand} {ty e : TypeId} [hT : USlice P ty e] {b1 : Nat} [hS : USize P e (.int .i64 0) 1 b1] {u v : Int} (hx : look σ x = some (.int .i64 u)) (hy : look σ y = some (.int .i64 v)) (hd : Nat.blt d N.n = true)
    (K : ∀ w' b, Sl i64v w'.heap w'.heap.size (some ⟨b, 0, none⟩) 2 2 [u, v] → Gx w w' → TL P N .seq ops Q rest ((d, .slice (some ⟨b, 0, none⟩) 2 2) :: σ) w') :
    TL P N .seq ops Q (⟨some d, .buildSlice ty 2 #[(0, x), (1, y)], t, pos, af, none⟩ :: rest) σ w := by
  have hB : Bk i64v (w.alloc (.cells #[i64v u, i64v v] e)).heap w.heap.size e [u, v] := by unfold Bk; rw [heap_alloc]; rfl
  refine TL.op (w' := w.alloc (.cells #[i64v u, i64v v] e)) (fun ρ hρ => ?_) hd (K _ _ ((hB.slN (n := 2) (c := 2) rfl (Nat.le_refl _) hB.lt).size) (Gx.alloc ..))
  have := run_build (w := w) hT hS (z := .int .i64 0) rfl [i64v u, i64v v] #[(0, i64v u), (1, i64v v)] (by simp [Instr.fill, i64v, Value.cells]; rfl) (by simp)
  simp only [List.length_cons, List.length_nil, Nat.zero_add, Nat.reduceAdd] at this
  simp only [i64v] at this
  simp [execOp, hρ x _ hx, hρ y _ hy, this, i64v]
end
end Go.Eng
namespace Go.Proofs.Ytlpheckjogphmaa
open Go Go.Eng Go.Proofs Go.NatM Go.RowKit

def cmpI (a b : Int) : Int := if a < b then -1 else if b < a then 1 else 0
theorem isNaN_ok (w : World) (a : Int) : Cl Try.prog 83 #[.int .i64 a] w (fun e w' => e = .returned (.bool false) ∧ w' = w) := by
  refine enter Try.func83 rfl rfl rfl ?_
  repeat' (first | refine TL.ev (ev_simple rfl) rfl ?_ | (refine TL.cmpG rfl rfl rfl rfl (fun hc => ?_) (fun hc => ?_) <;> try first | (exfalso; omega) | exact absurd rfl hc) | refine T.seq ?_ | refine T.region ?_ | refine TL.nil ?_ | refine T.ret ?_ | refine G.next ?_)
  all_goals exact G.ret1 rfl rfl ⟨rfl, rfl⟩
theorem compare_ok (w : World) (a b : Int) : Cl Try.prog 56 #[.int .i64 a, .int .i64 b] w (fun e w' => e = .returned (.int .i64 (cmpI a b)) ∧ w' = w) := by
  refine enter Try.func56 rfl rfl rfl ?_
  repeat' (first | refine TL.ev (ev_simple rfl) rfl ?_ | (refine TL.call rfl rfl ?_; first | (refine (isNaN_ok _ _).mono ?_; rintro _ _ ⟨rfl, rfl⟩; refine Back.mk ?_)) | (refine TL.cmpG rfl rfl rfl rfl (fun hc => ?_) (fun hc => ?_) <;> try (exfalso; omega)) | refine T.seq ?_ | refine T.region ?_ | refine TL.nil ?_ | refine T.cond_t rfl ?_ | refine T.cond_f rfl ?_ | refine T.ret ?_ | refine T.skip ?_ | refine G.next ?_ | refine G.thenR ?_)
  all_goals
    refine G.ret1 rfl rfl ⟨?_, rfl⟩
    unfold cmpI
    first
    | rw [if_pos (by omega)]
    | rw [if_neg (by omega), if_pos (by omega)]
    | rw [if_neg (by omega), if_neg (by omega)]
def orI (u v : Int) : Int := if u ≠ 0 then u else v
theorem or_ok (w : World) (A : Option Addr) (u v : Int) (hs : Sl i64v w.heap w.heap.size A 2 2 [u, v]) : Cl Try.prog 55 #[.slice A 2 2] w (fun e w' => e = .returned (.int .i64 (orI u v)) ∧ w' = w) := by
  refine enter Try.func55 rfl rfl rfl ?_
  repeat' (first | refine TL.ev (ev_simple rfl) rfl ?_ | refine TL.ev (ev_len rfl) rfl ?_ | refine T.seq ?_ | refine T.region ?_ | refine TL.nil ?_ | refine T.block ?_ | refine G.next ?_)
  refine T.loop (α := Nat) (fun k => [(0, .slice A 2 2), (3, .int .i64 0), (6, .slice A 2 2), (7, .int .i64 2), (8, .int .i64 (k : Int))]) (fun k w' => w' = w ∧ k ≤ 2 ∧ (1 ≤ k → u = 0) ∧ (2 ≤ k → v = 0)) (fun k => 2 - k) 0 (by repeat (first | exact Sub.nil _ | refine Sub.cons rfl ?_ | refine Sub.cons' rfl (int_congr (by omega)) ?_)) ⟨rfl, by omega, fun h => by omega, fun h => by omega⟩ ?_
  rintro k w1 ⟨rfl, hk, h1, h2⟩
  obtain rfl | rfl | rfl : k = 0 ∨ k = 1 ∨ k = 2 := by omega
  · repeat' (first | refine TL.ev (ev_simple rfl) rfl ?_ | (refine TL.cmpG rfl rfl rfl rfl (fun hc => ?_) (fun hc => ?_) <;> try (exfalso; omega)) | refine TL.ev (ev_arN rfl rfl rfl (by omega)) rfl ?_ | refine TL.ev (ev_indexN rfl rfl (by omega) (by first | exact Or.inr rfl | exact Sl.some (by assumption))) rfl ?_ | refine TL.ev (ev_loadI rfl (by assumption) (by omega)) rfl ?_ | refine T.seq ?_ | refine T.region ?_ | refine TL.nil ?_ | refine T.block ?_ | refine T.cond_t rfl ?_ | refine T.cond_f rfl ?_ | refine T.ret ?_ | refine T.skip ?_ | refine G.next ?_ | refine G.blockN ?_ | refine G.blockR ?_ | refine G.thenR ?_)
    · exact G.ret1 rfl rfl ⟨by unfold orI; rw [if_pos (show u ≠ 0 from hc)]; rfl, rfl⟩
    · have e : u = 0 := Classical.not_not.1 (show ¬ u ≠ 0 from hc)
      exact G.again 1 (by repeat (first | exact Sub.nil _ | refine Sub.cons rfl ?_ | refine Sub.cons' rfl (int_congr (by omega)) ?_)) ⟨rfl, by omega, fun _ => e, fun h => by omega⟩ (by omega)
  · repeat' (first | refine TL.ev (ev_simple rfl) rfl ?_ | (refine TL.cmpG rfl rfl rfl rfl (fun hc => ?_) (fun hc => ?_) <;> try (exfalso; omega)) | refine TL.ev (ev_arN rfl rfl rfl (by omega)) rfl ?_ | refine TL.ev (ev_indexN rfl rfl (by omega) (by first | exact Or.inr rfl | exact Sl.some (by assumption))) rfl ?_ | refine TL.ev (ev_loadI rfl (by assumption) (by omega)) rfl ?_ | refine T.seq ?_ | refine T.region ?_ | refine TL.nil ?_ | refine T.block ?_ | refine T.cond_t rfl ?_ | refine T.cond_f rfl ?_ | refine T.ret ?_ | refine T.skip ?_ | refine G.next ?_ | refine G.blockN ?_ | refine G.blockR ?_ | refine G.thenR ?_)
    · exact G.ret1 rfl rfl ⟨by unfold orI; rw [if_neg (fun h => h (h1 (Nat.le_refl _)))]; rfl, rfl⟩
    · have e : v = 0 := Classical.not_not.1 (show ¬ v ≠ 0 from hc)
      exact G.again 2 (by repeat (first | exact Sub.nil _ | refine Sub.cons rfl ?_ | refine Sub.cons' rfl (int_congr (by omega)) ?_)) ⟨rfl, by omega, fun _ => h1 (Nat.le_refl _), fun _ => e⟩ (by omega)
  · repeat' (first | refine TL.ev (ev_simple rfl) rfl ?_ | (refine TL.cmpG rfl rfl rfl rfl (fun hc => ?_) (fun hc => ?_) <;> try (exfalso; omega)) | refine T.seq ?_ | refine T.region ?_ | refine TL.nil ?_ | refine T.cond_f rfl ?_ | refine T.exit ?_ | refine T.ret ?_ | refine G.next ?_ | refine G.blockE ?_ | refine G.thenE ?_)
    exact G.ret1 rfl rfl ⟨by unfold orI; rw [if_neg (fun h => h (h1 (by omega))), h2 (Nat.le_refl _)], rfl⟩
/-- the order of places -/
def cmpPl (x y : (Int × Int) × IV) : Int := orI (cmpI x.1.1 y.1.1) (cmpI x.1.2 y.1.2)
theorem plcmp_ok (W : World) (x y : (Int × Int) × IV) : Cl Try.prog 54 #[.agg (plc x).toArray, .agg (plc y).toArray] W (fun e w' => e = .returned (.int .i64 (cmpPl x y)) ∧ Gx W w') := by
  obtain ⟨⟨x1, x2⟩, ⟨xn, ⟨xA, xk, xc, xl⟩⟩⟩ := x
  obtain ⟨⟨y1, y2⟩, ⟨yn, ⟨yA, yk, yc, yl⟩⟩⟩ := y
  refine enter Try.func54 rfl rfl rfl ?_
  have hG := Gx.refl W
  refine T.seq ?_
  refine T.region ?_
  refine TL.boxAX (d := 2) (cs := [.int .i64 x1, .int .i64 x2, .bool xn, .slice xA xk xc]) rfl rfl ?_
  intro w2 b2 hV2 hE
  replace hG := hG.trans hE
  clear hE
  refine TL.boxAX (d := 3) (cs := [.int .i64 y1, .int .i64 y2, .bool yn, .slice yA yk yc]) rfl rfl ?_
  intro w3 b3 hV3 hE
  replace hV2 := hV2.ext hE.ext
  replace hG := hG.trans hE
  clear hE
  refine TL.ev (ev_assign rfl) rfl ?_
  refine TL.nil ?_
  refine G.next ?_
  refine T.seq ?_
  refine T.regionF (fun w' => Gx W w' ∧ Vr w'.heap b2 46 [.int .i64 x1, .int .i64 x2, .bool xn, .slice xA xk xc] ∧ Vr w'.heap b3 46 [.int .i64 y1, .int .i64 y2, .bool yn, .slice yA yk yc]) 13 (.s 0 (.s 1 (.s 2 (.s 3 (.s 5 (.s 6 (.s 7 (.s 8 (.e 4 (.e 9 (.e 10 (.e 11 (.s 12 .nil))))))))))))) mixed (by kernel_rfl) ⟨hG.trans (Gx.drewN ..), hV2, hV3⟩ ?_
  replace hG := hG.trans (Gx.drewN w3 1)
  replace hV2 : Vr (w3.drewN 1).heap b2 46 [.int .i64 x1, .int .i64 x2, .bool xn, .slice xA xk xc] := hV2
  replace hV3 : Vr (w3.drewN 1).heap b3 46 [.int .i64 y1, .int .i64 y2, .bool yn, .slice yA yk yc] := hV3
  refine TF.s rfl (fun w' hw => ev_fieldAddr rfl) rfl ?_
  refine TF.s rfl (fun w' hw => ev_loadV rfl hw.2.1 rfl) rfl ?_
  refine TF.s rfl (fun w' hw => ev_fieldAddr rfl) rfl ?_
  refine TF.s rfl (fun w' hw => ev_loadV rfl hw.2.2 rfl) rfl ?_
  refine TF.s rfl (fun w' hw => ev_fieldAddr rfl) rfl ?_
  refine TF.s rfl (fun w' hw => ev_loadV rfl hw.2.1 rfl) rfl ?_
  refine TF.s rfl (fun w' hw => ev_fieldAddr rfl) rfl ?_
  refine TF.s rfl (fun w' hw => ev_loadV rfl hw.2.2 rfl) rfl ?_
  refine TF.e rfl ?_
  refine TL.call rfl rfl ?_
  refine (compare_ok _ _ _).mono ?_
  rintro _ _ ⟨rfl, rfl⟩
  refine Back.mk ?_
  refine TL.nil ?_
  refine G.only ?_
  refine G.tree rfl ⟨hG, hV2, hV3⟩ ?_
  refine TF.e rfl ?_
  refine TL.call rfl rfl ?_
  refine (compare_ok _ _ _).mono ?_
  rintro _ _ ⟨rfl, rfl⟩
  refine Back.mk ?_
  refine TL.nil ?_
  refine G.only ?_
  refine G.tree rfl ⟨hG, hV2, hV3⟩ ?_
  refine TF.e rfl ?_
  refine TL.build2X rfl rfl rfl ?_
  intro w4 b4 hs hE
  replace hG := hG.trans hE
  replace hV2 := hV2.ext hE.ext
  replace hV3 := hV3.ext hE.ext
  refine TL.nil ?_
  refine G.only ?_
  refine G.tree rfl ⟨hG, hV2, hV3⟩ ?_
  refine TF.e rfl ?_
  refine TL.call rfl rfl ?_
  refine (or_ok _ _ _ _ hs).mono ?_
  rintro _ _ ⟨rfl, rfl⟩
  refine Back.mk ?_
  refine TL.nil ?_
  refine G.only ?_
  refine G.tree rfl ⟨hG, hV2, hV3⟩ ?_
  refine TF.s rfl (fun w' hw => ev_assign rfl) rfl ?_
  refine TF.nil ?_
  repeat' (first | refine T.ret ?_ | refine G.next ?_)
  exact G.ret1 rfl rfl ⟨rfl, hG⟩
end Go.Proofs.Ytlpheckjogphmaa

set_option linter.unusedSectionVars false
namespace Go.Eng
open Go Go.Proofs Go.NatM Go.RowKit Go.Sort Go.Proofs.Ytlpheckjogphmaa
theorem flat_get (l : GL) (t : Nat) (ht : t < l.length * 4) : (flatK plc 4 l.toArray)[t]! = (l.flatMap plc)[t]?.getD default := by
  have h1 : t / 4 < l.length := Nat.div_lt_of_lt_mul (by omega)
  have h2 := flatMap_get (f := plc) (k := 4) (l := l) (fun _ _ => rfl) (t / 4) (t % 4) l[t / 4] (List.getElem?_eq_getElem h1) (Nat.mod_lt _ (by decide))
  rw [Nat.div_add_mod'] at h2
  rw [get_flatK _ _ _ _ (by simpa using ht), h2]
  have h3 : l.toArray[t / 4]! = l[t / 4] := by simp [h1]
  rw [h3]
  have h4 : t % 4 < (plc l[t / 4]).length := Nat.mod_lt _ (by decide)
  exact List.getElem!_eq_getElem?_getD
theorem flat_get? (l : GL) (zs : List Value) (t : Nat) (ht : t < l.length * 4) : (l.flatMap plc ++ zs)[t]? = some (flatK plc 4 l.toArray)[t]! := by
  have hl : (l.flatMap plc).length = l.length * 4 := flatMap_len fun _ _ => rfl
  rw [flat_get l t ht, List.getElem?_append_left (by omega), List.getElem?_eq_getElem (by omega)]; rfl
theorem holds_of {w : World} {b : Nat} {t : TypeId} {l : GL} {zs : List Value} (h : Vr w.heap b t (l.flatMap plc ++ zs)) : HoldsK plc 4 w b 0 l.toArray := by
  intro j hj
  rw [size_flatK] at hj
  have hj' : j < l.length * 4 := by simpa using hj
  refine ⟨?_, ?_⟩
  · rw [cell_of_hcell, Nat.zero_add, h.cell]; exact flat_get? l zs j hj'
  · unfold World.frozen?
    unfold Vr at h
    rw [h]; simp
theorem put_vr {w : World} {b n : Nat} {t : TypeId} {l : GL} {zs : List Value} {d : Array ((Int × Int) × IV)} (os : Array Obj) (h : Vr w.heap b t (l.flatMap plc ++ zs)) (hd : d.size = l.length) : Vr (sortWorldK plc 4 w b 0 n d os).heap b t (d.toList.flatMap plc ++ zs) ∧ Exs (fun k => k = b) w (sortWorldK plc 4 w b 0 n d os) := by
  have hlt := h.lt
  have hl : (l.flatMap plc).length = l.length * 4 := flatMap_len fun _ _ => rfl
  have hl2 : (d.toList.flatMap plc).length = l.length * 4 := by rw [flatMap_len (f := plc) (k := 4) fun _ _ => rfl]; simp [hd]
  have hheap : ∀ k, k < w.heap.size → (sortWorldK plc 4 w b 0 n d os).heap[k]? = (w.heap.modify b (onCells (putCells id 0 (flatK plc 4 d))))[k]? := fun k hk => by
    unfold sortWorldK grow putRowK putRow mapBlock Go.Sort.ahead
    simp only
    rw [Array.getElem?_append_left (by simpa using hk)]
  refine ⟨?_, ⟨rfl, rfl, rfl, ?_, fun k hk hne => ?_⟩⟩
  · unfold Vr at h ⊢
    rw [hheap b hlt, Array.getElem?_modify, if_pos rfl, h]
    simp only [Option.map_some, onCells, Option.some.injEq, Obj.cells.injEq, and_true]
    apply Array.ext_getElem?
    intro k
    simp only [putCells, Array.getElem?_mapIdx, List.getElem?_toArray, size_flatK, Nat.zero_add, Nat.sub_zero, Nat.zero_le, true_and, id]
    by_cases hk : k < l.length * 4
    · have e1 := flat_get? d.toList zs k (by simp [hd]; omega)
      simp only [Array.toArray_toList] at e1
      rw [e1, List.getElem?_append_left (by omega), List.getElem?_eq_getElem (by omega)]
      simp [hd, hk]
    · rw [List.getElem?_append_right (by omega), List.getElem?_append_right (by omega), hl, hl2]
      cases zs[k - l.length * 4]? with
      | none => rfl
      | some v => simp [hd, hk]
  · unfold sortWorldK grow putRowK putRow mapBlock Go.Sort.ahead
    simp
  · rw [hheap k hk, Array.getElem?_modify, if_neg fun e => hne e.symm]
end Go.Eng

set_option linter.unusedSectionVars false
namespace Go.Eng
open Go
theorem Fr.permL {S : Nat → Prop} {w0 w : World} {L L' : List VB} {D : List DP} (h : Fr w0 w L D S) (hp : L.Perm L') : Fr w0 w L' D S :=
  ⟨h.exs, fun v hv => h.vars v (hp.mem_iff.2 hv), (hp.pairwise_iff (fun h => Ne.symm h)).1 h.dist, h.data, fun v hv => h.apart v (hp.mem_iff.2 hv)⟩
theorem Fr.rotL {S : Nat → Prop} {w0 w : World} {a b c : VB} {L : List VB} {D : List DP} (h : Fr w0 w (a :: b :: c :: L) D S) : Fr w0 w (c :: a :: b :: L) D S :=
  h.permL (by
    have : (a :: b :: c :: L).Perm (a :: c :: b :: L) := (List.Perm.swap c b L).cons a
    exact this.trans (List.Perm.swap c a (b :: L)))
/-- a block that a callee has written anew -/
theorem Fr.wroteV {S : Nat → Prop} {w0 w w' : World} {b : Nat} {t : TypeId} {cs cs' : List Value} {L : List VB} {D : List DP} (hF : Fr w0 w (⟨b, t, cs⟩ :: L) D S) (hc : cs.all noU64 = true) (hE : Exs (fun k => k = b) w w') (hV : Vr w'.heap b t cs') : Fr w0 w' (⟨b, t, cs'⟩ :: L) D S := by
  have hd := List.pairwise_cons.1 hF.dist
  have hlo := (hF.vars _ (List.mem_cons_self ..)).1
  have hVo := (hF.vars _ (List.mem_cons_self ..)).2
  dsimp only at hlo hVo
  refine ⟨hF.exs.then hE fun i hi e => ?_, fun v hv => ?_, List.pairwise_cons.2 ⟨fun v hv => hd.1 v hv, hd.2⟩, fun d hdm => ?_, fun v hv d hdm => ?_⟩
  · subst e
    exact hlo.elim (fun h => absurd hi (Nat.not_lt_of_le h)) id
  · rcases List.mem_cons.1 hv with rfl | hv
    · exact ⟨hlo, hV⟩
    · have h1 := hF.vars v (List.mem_cons_of_mem _ hv)
      refine ⟨h1.1, ?_⟩
      have h2 := h1.2
      have h3 := h2.lt
      unfold Vr at h2 ⊢
      rw [hE.block _ h3 fun e => hd.1 v hv e.symm]; exact h2
  · have hap := hF.apart _ (List.mem_cons_self ..) d hdm
    refine d.st _ _ ⟨hE.size, fun k cs2 t2 y hk hor => hE.block k (Array.getElem?_eq_some_iff.1 hk).1 fun e => ?_, fun k o hk _ hf => hE.block k (Array.getElem?_eq_some_iff.1 hk).1 fun e => hap (e ▸ hf)⟩ (hF.data d hdm)
    subst e
    rcases hor with hf | hn
    · exact hap hf
    · unfold Vr at hVo
      rw [hVo] at hk
      cases hk
      simp only [List.toList_toArray] at hn
      rw [hc] at hn
      cases hn
  · rcases List.mem_cons.1 hv with rfl | hv
    · exact hF.apart _ (List.mem_cons_self ..) d hdm
    · exact hF.apart v (List.mem_cons_of_mem _ hv) d hdm
end Go.Eng
namespace Go.Proofs.Ytlpheckjogphmaa
open Go Go.Eng Go.Proofs Go.NatM Go.RowKit

/-- one place ahead of another -/
def plt (x y : Int × Int) : Prop := x.1 < y.1 ∨ (x.1 = y.1 ∧ x.2 < y.2)
def SortedPl (l : GL) : Prop := l.Pairwise fun x y => plt x.1 y.1
/-- what the sort does -/
def SortOk : Prop := ∀ (w : World) (b c : Nat) (l : GL) (zs : List Value), Vr w.heap b 46 (l.flatMap plc ++ zs) → l.length ≤ 1048576 → (l.map (·.1)).Nodup →
  Cl Try.prog 53 #[.slice (some ⟨b, 0, none⟩) l.length c, .func (.func 54) #[] #[]] w (fun e w' => e = .returned (.tuple #[]) ∧ ∃ l' : GL, l'.Perm l ∧ SortedPl l' ∧ Vr w'.heap b 46 (l'.flatMap plc ++ zs) ∧ Exs (fun k => k = b) w w')
/-- the places in order, in a block of their own -/
def RetPc (w : World) (l : GL) (e : Ending) (w' : World) : Prop := ∃ (ls : GL) (b c : Nat) (zs : List Value), e = .returned (.slice (some ⟨b, 0, none⟩) ls.length c) ∧ (ls.length ≤ c ∧ zs.length = (c - ls.length) * 4 ∧ zs.all noU64 = true) ∧ Fr w w' [⟨b, 46, ls.flatMap plc ++ zs⟩] [dpGv ls] ∧ SortedPl ls ∧ (ls.map (·.1)).Nodup ∧ ls.length = l.length ∧ ∀ k, zk ls k = zk l k
set_option maxHeartbeats 4000000 in
theorem gplaces_ok (hSort : SortOk) (w : World) (g m r c : Nat) (l : GL) (hG : Gr w.heap g m r c l) (hl : l.length ≤ 1048576) : Cl Try.prog 13 #[.pointer (some ⟨g, 0, none⟩)] w (RetPc w l) := by
  have hn : (l.map (·.1)).Nodup := by obtain ⟨es, k, _, h⟩ := hG.mp; exact h.keys
  have hF := Gr.frD hG (Fr.refS w fun _ => False)
  have hgm := hG.ne
  clear hG
  refine enter Try.func13 rfl rfl rfl ?_
  repeat' (first | (refine TL.isOp ?_; first | (apply TL.ev; (case hd => rfl); (case h => (first | exact ev_simple rfl | (apply Ev.isBin; first | exact ev_eqlP rfl rfl rfl) | (apply Ev.isLoad; first | exact ev_loadCb hF rfl (by repeat (first | exact memH | apply memT)) rfl) | exact ev_fieldAddr rfl | exact ev_nilCheck rfl | exact ev_mlen hF rfl (by repeat (first | exact memH | apply memT))))) | (refine TL.makeFr hF (f := plc) ((0, 0), iv0) rfl rfl rfl (Nat.zero_le _) (by omega) rfl rfl rfl ?_; clear hF; intro w13 b13 hF) | (refine TL.rangeFr (f := spot) (g := ivA) (l := l) hF rfl (by repeat (first | exact memH | apply memT)) rfl ?_; have hr := hF.exs.size; clear hF; intro wr rr er hF; replace hr := Nat.le_trans hr (Nat.le_of_eq er.symm); clear er)) | (refine T.is ?_; first | refine T.seq ?_ | refine T.region ?_ | refine T.block ?_ | refine T.cond_f rfl ?_ | refine T.skip ?_) | (refine G.is ?_; first | refine G.next ?_) | refine TL.nil ?_)
  have hmr := hF.it_mp (m := m) (l2 := l) (by repeat (first | exact memH | apply memT)) (by repeat (first | exact memH | apply memT))
  have hgr := hF.it_cb (g := g) (cs := grc r c m) (by repeat (first | exact memH | apply memT)) (by repeat (first | exact memH | apply memT))
  have hzl : ((List.replicate l.length (((0, 0), iv0) : (Int × Int) × IV)).flatMap plc).length = (l.length - ([] : GL).length) * 4 := by rw [flatMap_len (f := plc) (k := 4) fun _ _ => rfl]; simp
  have hzn : ((List.replicate l.length (((0, 0), iv0) : (Int × Int) × IV)).flatMap plc).all noU64 = true := by have := plc_no (List.replicate l.length (((0, 0), iv0) : (Int × Int) × IV)) (zs := []) rfl; rwa [List.append_nil] at this
  refine T.loop (α := GL × GL × GL × List Value) (fun x => [(3, .slice (some ⟨b13, 0, none⟩) x.2.2.1.length l.length), (18, .pointer (some ⟨rr, 0, none⟩))])
    (fun x w' => l.Perm (x.1 ++ x.2.1) ∧ (Lk idk x.1 x.2.2.1 ∧ x.2.2.2.length = (l.length - x.2.2.1.length) * 4 ∧ x.2.2.2.all noU64 = true) ∧ Fr w w' [⟨b13, 46, x.2.2.1.flatMap plc ++ x.2.2.2⟩] [dpIt spot ivA rr m l x.1 x.2.1, dpMp spot ivA m l, dpCb g 96 (grc r c m), dpGv l, dpGv x.2.2.1]) (fun x => x.2.1.length) ([], l, [], (List.replicate l.length (((0, 0), iv0) : (Int × Int) × IV)).flatMap plc) (by repeat (first | exact Sub.nil _ | refine Sub.cons rfl ?_ | refine Sub.cons' rfl (int_congr (by omega)) ?_)) ⟨List.Perm.refl _, ⟨rfl, hzl, hzn⟩, by
      have h0 := Fr.addGv hF (l := []) fun p hp => (by cases hp)
      exact h0.weak (List.Sublist.refl _) (allH (by repeat (first | exact memH | apply memT)) (allH (by repeat (first | exact memH | apply memT)) (allH (by repeat (first | exact memH | apply memT)) (allH (by repeat (first | exact memH | apply memT)) (allH (by repeat (first | exact memH | apply memT)) allN)))))⟩ ?_
  clear hF hzl hzn
  rintro ⟨done, todo, ls, zs⟩ w1 ⟨hp, ⟨hlk, hzl, hzn⟩, hF⟩
  dsimp only at hp hlk hzl hzn hF ⊢
  have hpl := hp.length_eq
  rw [List.length_append] at hpl
  have hll := hlk.len
  have hnd : (ls.map (·.1)).Nodup := by
    rw [hlk.keys]
    have h1 : ((done ++ todo).map (·.1)).Nodup := ((hp.map _).nodup_iff).1 hn
    rw [List.map_append] at h1
    exact (List.nodup_append.1 h1).1
  repeat' (first | (refine TL.isOp ?_; first | (refine TL.isCall ?_; refine TL.call rfl rfl ?_; first | (refine (zleast_ok _ p.2 (Fr.gv (l := l) hF (by repeat (first | exact memH | apply memT)) p (pm_mem hp ht)).1.g (Nat.le_trans (Fr.gv (l := l) hF (by repeat (first | exact memH | apply memT)) p (pm_mem hp ht)).2 (by decide))).mono ?_; rintro _ wy ⟨y, rfl, hy, hE, hyn⟩; have hyn2 := Nat.le_trans hyn (Fr.gv (l := l) hF (by repeat (first | exact memH | apply memT)) p (pm_mem hp ht)).2; have hyv := hy.val; replace hF := Fr.addLI (hF.exts hE) hy; clear hE hy hyn; refine Back.mk ?_) | (refine (hSort _ b13 l.length ls zs (hF.var .head) (by omega) hnd).mono ?_; rintro _ wy ⟨rfl, ls', hpls, hso, hV', hE⟩; replace hF := hF.wroteV (plc_no _ hzn) hE hV'; clear hE hV'; rw [← hpls.length_eq]; refine Back.mk ?_)) | (apply TL.ev; (case hd => rfl); (case h => (first | exact ev_simple rfl | exact ev_entry hF (by repeat (first | exact memH | apply memT)) rfl))) | (refine TL.storeAFr hF rfl rfl rfl rfl (by refine ⟨?_, ?_⟩; (focus (repeat (first | apply SetV.head | apply SetV.tail))); rfl) rfl ?_; clear hF; intro ws hF) | (refine TL.nextFr hF (.inl hr) (nfC (nf_mp hmr) (nfC (nf_cb hgr) (nfC nf_gv (nfC nf_gv nfN)))) rfl rfl (fun h0 wn hFn => ?_) (fun p todo' wn ht hFn => ?_) <;> clear hF <;> have hF := hFn <;> clear hFn) | (refine TL.allocFr hF (d := 4) rfl rfl ?_; clear hF; intro w4 b4 hF) | (refine TL.allocFr hF (d := 5) rfl rfl ?_; clear hF; intro w5 b5 hF) | (refine TL.buildXs hF (f := plc) (d := 32) [(p.1, y)] [.tmp 31] rfl rfl rfl rfl (by intro u hu; rfl) rfl rfl (by omega) (by omega) ?_; clear hF; intro w32 b32 hF hEn hbn hSn) | (refine TL.appendAtFr (f := plc) (l := ls) (zs := zs) hF rfl rfl rfl rfl hSn (fun _ => rfl) (fun _ => rfl) rfl rfl rfl hzl (by omega) (plc_no _ hzn) (by omega) (by repeat (first | exact SetV.head | apply SetV.tail)) (fun hle wa hFn => ?_) (fun hgt wa ba ca za hca hza hzan hFn => ?_) <;> clear hF hSn <;> have hF := hFn <;> clear hFn)) | (refine TF.is ?_; first | refine TF.nil ?_ | refine TF.e rfl ?_ | (refine TF.pick rfl ?_; first | (apply TFo.ev; (case hd => rfl); (case h => (intro wh hF; first | exact ev_simple rfl | (apply Ev.isLoad; first | exact ev_loadFr hF rfl (by refine ⟨?_, ?_⟩; (focus (repeat (first | exact InV.head | apply InV.tail))); rfl) | exact ev_loadAFr hF rfl (by refine ⟨?_, ?_⟩; (focus (repeat (first | exact InV.head | apply InV.tail))); rfl)) | exact ev_fieldAddr rfl | exact ev_buildX rfl rfl))))) | (refine T.is ?_; first | refine T.seq ?_ | refine T.region ?_ | refine T.block ?_ | refine T.cond_t rfl ?_ | refine T.cond_f rfl ?_ | refine T.exit ?_ | refine T.ret ?_ | refine T.skip ?_ | (refine T.regionFt (Fr.rotL hF) 7 11 (.s 0 (.s 1 (.s 2 (.s 3 (.s 4 (.s 5 (.e 6 (.s 7 (.e 8 (.e 9 (.s 10 .nil))))))))))) mixed (by kernel_rfl) ?_; clear hF; intro wr hF)) | (refine G.is ?_; first | refine G.next ?_ | refine G.blockN ?_ | refine G.blockE ?_ | refine G.thenE ?_ | refine G.only ?_ | refine G.tree rfl (by first | exact hF | exact hF.weak (List.sublist_append_right _ _) (by repeat (first | exact allR | apply allT)) | exact hF.weak (by repeat (first | exact List.Sublist.refl _ | apply List.Sublist.cons)) (by repeat (first | exact allR | apply allT)) | exact hF.weak (by repeat (first | exact List.Sublist.refl _ | apply List.Sublist.cons)) (by repeat (first | exact allN | refine allH (by repeat (first | exact memH | apply memT)) ?_))) ?_) | refine TL.nil ?_)
  · subst h0
    rw [List.append_nil] at hp
    have hgv := Fr.gv (l := ls) hF (by repeat (first | exact memH | apply memT))
    have hF2 := Fr.addGv hF (l := ls') fun p hp => hgv p (hpls.mem_iff.1 hp)
    have hlen := hpls.length_eq
    have hdl := hp.length_eq
    refine G.ret1 rfl rfl ⟨ls', b13, l.length, zs, rfl, ⟨by omega, by rw [hlen]; exact hzl, hzn⟩, hF2.weak (List.Sublist.refl _) (allH (by repeat (first | exact memH | apply memT)) allN), hso, ((hpls.map _).nodup_iff).2 hnd, by omega, fun k => ?_⟩
    have e1 := hlk.zk idk_inj k
    unfold zk at e1 ⊢
    rw [lkp_perm hn hp, ← e1, ← lkp_perm hnd hpls.symm]; rfl
  · refine G.again (done ++ [p], todo', ls ++ [(idk p.1, y)], zs.drop (1 * 4)) ?_ ⟨step_perm hp ht, ⟨hlk.snoc hyv, ?_, drop_noV hzn _⟩, ?_⟩ (step_mu ht)
    · dsimp only; rw [List.length_append]; exact (by repeat (first | exact Sub.nil _ | refine Sub.cons rfl ?_ | refine Sub.cons' rfl (int_congr (by omega)) ?_))
    · dsimp only; rw [List.length_drop, List.length_append, hzl]; simp only [List.length_cons, List.length_nil]; omega
    · exact (Fr.gvSnoc hF (lo := ls) (q := idk p.1) (by repeat (first | exact memH | apply memT)) (Fr.li hF (x := y) (z := ival p.2) (by repeat (first | exact memH | apply memT))) hyn2).weak (.cons_cons _ (List.nil_sublist _)) (allH (by repeat (first | exact memH | apply memT)) (allH (by repeat (first | exact memH | apply memT)) (allH (by repeat (first | exact memH | apply memT)) (allH (by repeat (first | exact memH | apply memT)) (allH (by repeat (first | exact memH | apply memT)) allN)))))
  · have := step_mu ht
    exact absurd hgt (by omega)
end Go.Proofs.Ytlpheckjogphmaa

namespace Go.Proofs
open Go.Shelf
def Try.sortPl_ren : Go.Shelf.Ren := ⟨fun | 6 => 53 | 15 => 82 | 14 => 81 | 28 => 101 | 29 => 65 | 20 => 93 | 21 => 94 | 22 => 95 | 23 => 96 | 24 => 97 | 25 => 98 | 26 => 99 | 27 => 100 | 46 => 105 | 47 => 106 | 48 => 107 | 49 => 108 | 50 => 109 | 57 => 111 | n => n, fun | 22 => 33 | 24 => 46 | 25 => 100 | 3 => 3 | 39 => 131 | 0 => 0 | 53 => 146 | 55 => 91 | 4 => 4 | 46 => 139 | 45 => 138 | 50 => 143 | 5 => 5 | 9 => 9 | 66 => 147 | 70 => 151 | 76 => 153 | 77 => 71 | n => n, fun | n => n⟩
theorem Try.sortPl : Go.Proofs.SlLaysF0.n6 Try.prog Try.sortPl_ren := {
  mixed := by kernel_rfl
  f6 := ⟨Try.f53.name, by decide, Try.func53.trans (congrArg some (by kernel_rfl))⟩
  f14 := ⟨Try.f81.name, by decide, Try.func81.trans (congrArg some (by kernel_rfl))⟩
  f15 := Try.func82.trans (congrArg some (by kernel_rfl))
  f20 := ⟨Try.f93.name, by decide, Try.func93.trans (congrArg some (by kernel_rfl))⟩
  f21 := ⟨Try.f94.name, by decide, Try.func94.trans (congrArg some (by kernel_rfl))⟩
  f22 := ⟨Try.f95.name, by decide, Try.func95.trans (congrArg some (by kernel_rfl))⟩
  f23 := ⟨Try.f96.name, by decide, Try.func96.trans (congrArg some (by kernel_rfl))⟩
  f24 := ⟨Try.f97.name, by decide, Try.func97.trans (congrArg some (by kernel_rfl))⟩
  f25 := ⟨Try.f98.name, by decide, Try.func98.trans (congrArg some (by kernel_rfl))⟩
  f26 := ⟨Try.f99.name, by decide, Try.func99.trans (congrArg some (by kernel_rfl))⟩
  f27 := ⟨Try.f100.name, by decide, Try.func100.trans (congrArg some (by kernel_rfl))⟩
  f28 := Try.func101.trans (congrArg some (by kernel_rfl))
  f29 := Try.func65.trans (congrArg some (by kernel_rfl))
  f46 := ⟨Try.f105.name, by decide, Try.func105.trans (congrArg some (by kernel_rfl))⟩
  f47 := Try.func106.trans (congrArg some (by kernel_rfl))
  f48 := Try.func107.trans (congrArg some (by kernel_rfl))
  f49 := ⟨Try.f108.name, by decide, Try.func108.trans (congrArg some (by kernel_rfl))⟩
  f50 := ⟨Try.f109.name, by decide, Try.func109.trans (congrArg some (by kernel_rfl))⟩
  f57 := ⟨Try.f111.name, by decide, Try.func111.trans (congrArg some (by kernel_rfl))⟩
  t0 := Try.underlying0
  a0 := Try.isAgg0
  z0 := Try.sizeOf0
  v0 := Try.zeroValue0
  t3 := Try.underlying3
  a3 := Try.isAgg3
  z3 := Try.sizeOf3
  v3 := Try.zeroValue3
  t4 := Try.underlying4
  a4 := Try.isAgg4
  z4 := Try.sizeOf4
  v4 := Try.zeroValue4
  t5 := Try.underlying5
  a5 := Try.isAgg5
  z5 := Try.sizeOf5
  v5 := Try.zeroValue5
  t9 := Try.underlying9
  a9 := Try.isAgg9
  z9 := Try.sizeOf9
  v9 := Try.zeroValue9
  t22 := Try.underlying33
  a22 := Try.isAgg33
  z22 := Try.sizeOf33
  v22 := Try.zeroValue33
  t25 := Try.underlying100
  a25 := Try.isAgg100
  z25 := Try.sizeOf100
  v25 := Try.zeroValue100
  t39 := Try.underlying131
  a39 := Try.isAgg131
  z39 := Try.sizeOf131
  v39 := Try.zeroValue131
  t45 := Try.underlying138
  a45 := Try.isAgg138
  z45 := Try.sizeOf138
  v45 := Try.zeroValue138
  t46 := Try.underlying139
  a46 := Try.isAgg139
  z46 := Try.sizeOf139
  v46 := Try.zeroValue139
  t50 := Try.underlying143
  a50 := Try.isAgg143
  z50 := Try.sizeOf143
  v50 := Try.zeroValue143
  t53 := Try.underlying146
  a53 := Try.isAgg146
  z53 := Try.sizeOf146
  v53 := Try.zeroValue146
  t55 := Try.underlying91
  a55 := Try.isAgg91
  z55 := Try.sizeOf91
  v55 := Try.zeroValue91
  t66 := Try.underlying147
  a66 := Try.isAgg147
  z66 := Try.sizeOf147
  v66 := Try.zeroValue147
  t70 := Try.underlying151
  a70 := Try.isAgg151
  z70 := Try.sizeOf151
  v70 := Try.zeroValue151
  t76 := Try.underlying153
  a76 := Try.isAgg153
  z76 := Try.sizeOf153
  v76 := Try.zeroValue153
  t77 := Try.underlying71
  a77 := Try.isAgg71
  z77 := Try.sizeOf71
  v77 := Try.zeroValue71 }
end Go.Proofs

set_option linter.unusedSectionVars false
namespace Go.Proofs.Ytlpheckjogphmaa
open Go Go.Eng Go.Proofs Go.NatM Go.RowKit Go.Sort

theorem cmpPl_lt (x y : (Int × Int) × IV) : cmpPl x y < 0 ↔ plt x.1 y.1 := by
  unfold cmpPl orI cmpI plt
  constructor
  · intro h
    (repeat' split at h) <;> omega
  · intro h
    (repeat' split) <;> omega
theorem plt_swo : SWO (ltOf cmpPl) where
  irrefl x := by
    have : ¬ cmpPl x x < 0 := fun h => by have := (cmpPl_lt x x).1 h; unfold plt at this; omega
    simp [ltOf, this]
  trans x y z h1 h2 := by
    unfold ltOf at *
    simp only [decide_eq_true_eq] at *
    rw [cmpPl_lt] at *
    unfold plt at *; omega
  ntrans x y z h1 h2 := by
    unfold ltOf at *
    simp only [decide_eq_false_iff_not] at *
    rw [cmpPl_lt] at *
    unfold plt at *; omega
theorem sorted_of {d : Array ((Int × Int) × IV)} (hs : SortedIn (ltOf cmpPl) 0 d.size d) (hn : (d.toList.map (·.1)).Nodup) : SortedPl d.toList := by
  unfold SortedPl
  rw [List.pairwise_iff_getElem]
  intro i j hi hj hij
  have h1 := hs i j (Nat.zero_le _) hij (by simpa using hj)
  have hi' : i < d.size := by simpa using hi
  have hj' : j < d.size := by simpa using hj
  rw [getElem!_pos d i hi', getElem!_pos d j hj'] at h1
  unfold ltOf at h1
  simp only [decide_eq_false_iff_not] at h1
  rw [cmpPl_lt] at h1
  have h2 : d[i].1 ≠ d[j].1 := fun e => by
    have := (List.nodup_iff_pairwise_ne.1 hn)
    rw [List.pairwise_iff_getElem] at this
    have h3 := this i j (by simpa using hi) (by simpa using hj) hij
    simp only [List.getElem_map, Array.getElem_toList] at h3
    exact h3 e
  simp only [Array.getElem_toList]
  generalize d[i].1 = a at *
  generalize d[j].1 = b at *
  obtain ⟨a1, a2⟩ := a
  obtain ⟨b1, b2⟩ := b
  unfold plt at *
  simp only [ne_eq, Prod.mk.injEq, not_and] at *
  omega
theorem sort_ok : SortOk := by
  intro w b c l zs hV hl hn
  have eg : ∀ args w, (callFunc 54 args).run Try.prog w = .ok (.enter 54 args) w := enters_of Try.func54 (by kernel_rfl) rfl
  have hcmp : CmpLays Try.prog 54 #[] plc 4 cmpPl b 0 l.toArray.size w := fun m os dk _ x y => (plcmp_ok _ x y).out.mono fun e w' ⟨he, hg⟩ => ⟨he, hg.grow⟩
  have hcon := AnyQ.slices_SortFunc Try.sortPl 4 Try.isAgg46 Try.sizeOf46 plc (fun _ => rfl) (fun x v hv => by simp [plc] at hv; rcases hv with rfl | rfl | rfl | rfl <;> rfl) cmpPl plt_swo 54 #[] b 0 c l.toArray w eg hcmp (holds_of hV) hV.lt (by simp; omega)
  have e0 : l.toArray.size = l.length := by simp
  rw [e0] at hcon
  change Calls Try.prog 53 _ _ _ at hcon
  refine Cl.of (hcon.mono ?_)
  rintro e w' ⟨rfl, d', n, os, hp, hs, rfl⟩
  have hsz : d'.size = l.length := by have := hp.1; simpa using this
  have hpm : d'.toList.Perm l := by
    have h1 := hp.2.2
    have e1 : (d'.extract 0 l.length) = d' := by rw [← hsz]; simp
    have e2 : (l.toArray.extract 0 l.length) = l.toArray := by
      rw [← e0]; exact Array.extract_size
    rw [e1, e2] at h1
    exact h1
  have hv := put_vr (n := n) os hV hsz
  rw [← hsz] at hs
  exact ⟨rfl, d'.toList, hpm, sorted_of hs (((hpm.map _).nodup_iff).2 hn), hv.1, hv.2⟩
end Go.Proofs.Ytlpheckjogphmaa

set_option linter.unusedSectionVars false
namespace Go.Eng
open Go Go.Proofs Go.NatM Go.RowKit Go.Proofs.Ytlpheckjogphmaa
abbrev S3 := Option Addr × Nat × Nat
/-- a row's places: its number, where the list lies, the list -/
abbrev RW := Int × S3 × GL
/-- finished rows -/
def dpRW (R : List RW) : DP := ⟨fun H => ∀ r ∈ R, Sm 4 plc H H.size r.2.1.1 r.2.1.2.1 r.2.1.2.2 r.2.2, fun k => ∃ r ∈ R, fpA r.2.1.1 r.2.1.2.1 k,
  fun H k h ⟨r, hr, hk⟩ => (h r hr).fp_lt hk, fun H H' hd h r hr => (Sm.de (fun b hb => ⟨r, hr, hb⟩) hd (h r hr)).size⟩
section
variable {S : Nat → Prop} {w0 w w' : World} {L : List VB} {D : List DP}
theorem Fr.rw (hF : Fr w0 w L D S) {R : List RW} (h : dpRW R ∈ D) : ∀ r ∈ R, Sm 4 plc w.heap w.heap.size r.2.1.1 r.2.1.2.1 r.2.1.2.2 r.2.2 := hF.data _ h
/-- the growing row is finished -/
theorem Fr.fin {R : List RW} {k : Int} {gl : GL} {b c : Nat} {zs : List Value} (hF : Fr w0 w (⟨b, 46, gl.flatMap plc ++ zs⟩ :: L) D S) (h : dpRW R ∈ D) (hc : gl.length ≤ c) : Fr w0 w L (dpRW (R ++ [(k, (some ⟨b, 0, none⟩, gl.length, c), gl)]) :: D) S := by
  have hw := hF.weak (L := L) (D := D) (List.Sublist.cons _ (List.Sublist.refl _)) allR
  have hV := hF.var (b := b) .head
  refine hw.add _ (fun r hr => ?_) fun v hv hk => ?_
  · rcases List.mem_append.1 hr with hr | hr
    · exact hF.rw h r hr
    · simp only [List.mem_cons, List.not_mem_nil, or_false] at hr
      subst hr
      exact vr_sm (by decide) (fun _ _ => rfl) hV rfl hc hV.lt
  · obtain ⟨r, hr, hk⟩ := hk
    rcases List.mem_append.1 hr with hr | hr
    · exact hF.apart v (List.mem_cons_of_mem _ hv) _ h ⟨r, hr, hk⟩
    · simp only [List.mem_cons, List.not_mem_nil, or_false] at hr
      subst hr
      obtain ⟨_, o, e⟩ := hk
      simp only [Option.some.injEq, Addr.mk.injEq] at e
      exact (List.pairwise_cons.1 hF.dist).1 v hv e.1
end
end Go.Eng
namespace Go.Proofs.Ytlpheckjogphmaa
open Go Go.Eng Go.Proofs Go.NatM Go.RowKit

section
variable {P : Program} {σ : Go.Eng.Store} {do_ : Option Tmp} {t : TypeId} {pos : String} {af : Array Edge} {gd : Option (Nat × Bool)} {S : Nat → Prop} {w0 w w' : World} {L : List VB} {D : List DP} {K V : Type} [DecidableEq K] {f : K → Value} {g : V → Value} {b : Nat} {l : List (K × V)}
end
end Go.Proofs.Ytlpheckjogphmaa

set_option linter.unusedSectionVars false
namespace Go.Eng
open Go Go.Proofs Go.NatM Go.RowKit Go.Proofs.Ytlpheckjogphmaa
/-- sums by columns -/
abbrev SL := List (Int × IV)
def sz (s : SL) (j : Int) : Int := ival ((lkp s j).getD iv0)
/-- a row's number at a column -/
def cs (gl : GL) (j : Int) : Int := (gl.map fun q => if q.1.2 = j then ival q.2 else 0).sum
end Go.Eng

set_option linter.unusedSectionVars false
namespace Go.Eng
open Go Go.Proofs Go.NatM Go.RowKit Go.Proofs.Ytlpheckjogphmaa
section
variable {P : Program} {σ : Go.Eng.Store} {do_ : Option Tmp} {t : TypeId} {pos : String} {af : Array Edge} {gd : Option (Nat × Bool)} {S : Nat → Prop} {w0 w w' : World} {L : List VB} {D : List DP}
end

end Go.Eng
namespace Go.Proofs.Ytlpheckjogphmaa
open Go Go.Eng Go.Proofs Go.NatM Go.RowKit
end Go.Proofs.Ytlpheckjogphmaa

set_option linter.unusedSectionVars false
namespace Go.Eng
open Go Go.Proofs Go.NatM Go.RowKit Go.Proofs.Ytlpheckjogphmaa
theorem nodup_len_le {α : Type} [DecidableEq α] : ∀ {a b : List α}, a.Nodup → (∀ x ∈ a, x ∈ b) → a.length ≤ b.length
  | [], b, _, _ => Nat.zero_le _
  | x :: a, b, hn, h => by
    simp only [List.nodup_cons] at hn
    have hx := h x (List.mem_cons_self ..)
    have ih := nodup_len_le (a := a) (b := b.erase x) hn.2 fun y hy => (List.mem_erase_of_ne (fun e => hn.1 (by rw [← e]; exact hy))).2 (h y (List.mem_cons_of_mem _ hy))
    rw [List.length_erase_of_mem hx] at ih
    have := List.length_pos_of_mem hx
    simp only [List.length_cons]
    omega
theorem NZ.none {l : GL} (h : NZ l) (hn : (l.map (·.1)).Nodup) (e : ∀ k, zv l k = 0) : l = [] := by
  cases l with
  | nil => rfl
  | cons p l => exact absurd (e p.1) ((h.keys p.1).1 (by simp))
end Go.Eng
namespace Go.Proofs.Ytlpheckjogphmaa
open Go Go.Eng Go.Proofs Go.NatM Go.RowKit
theorem Gr.nodup {H : Array Obj} {g m r c : Nat} {l : GL} (h : Gr H g m r c l) : (l.map (·.1)).Nodup := by obtain ⟨es, k, _, hr⟩ := h.mp; exact hr.keys
/-- Set's answers, by numbers -/
def SetBad (l : GL) (p : Int × Int) (z : Int) : Prop := bigZ z ∨ (zv l p = 0 ∧ z ≠ 0 ∧ 4096 ≤ l.length)
def RetSZ (w : World) (g m r c : Nat) (l : GL) (p : Int × Int) (z : Int) (e : Ending) (w' : World) : Prop := ∃ (er : Int) (l2 : GL), RetW w g m r c l2 (.int .i64 er) e w' ∧ ((er = 5 ∧ l2 = l ∧ SetBad l p z) ∨ (er = 0 ∧ ¬ SetBad l p z ∧ NZ l2 ∧ (∀ k, zv l2 k = if p = k then z else zv l k) ∧ (l2.length : Int) = (l.length : Int) - (if zv l p ≠ 0 then 1 else 0) + (if z ≠ 0 then 1 else 0)))
theorem setBad_iff {l : GL} (hz : NZ l) {p : Int × Int} {x : IV} : GLarge l p x ↔ SetBad l p (ival x) := by
  unfold GLarge SetBad
  rw [big_iff]
  have h := hz.iff p
  cases hq : (lkp l p).isSome with
  | false =>
    rw [hq] at h
    have : zv l p = 0 := Classical.byContradiction fun hn => by have := h.2 hn; cases this
    simp [this]
  | true =>
    rw [hq] at h
    have : zv l p ≠ 0 := h.1 rfl
    simp [this]
theorem gsetZ_ok (w : World) (g m r c : Nat) (l : GL) (p1 p2 : Int) (x : IV) (hG : Gr w.heap g m r c l) (hz : NZ l) (hp : (0 ≤ p1 ∧ p1 < (r : Int)) ∧ (0 ≤ p2 ∧ p2 < (c : Int))) (hx : GI w.heap x) (hxn : x.m.n ≤ 1099511627776) :
    Cl Try.prog 16 #[.pointer (some ⟨g, 0, none⟩), .int .i64 p1, .int .i64 p2, ivA x] w (RetSZ w g m r c l (p1, p2) (ival x)) := by
  by_cases hb : GLarge l (p1, p2) x
  · refine (gset_large w g m r c l p1 p2 x hG hp hx hxn hb).mono ?_
    rintro e w' ⟨rfl, hE⟩
    exact ⟨5, l, ⟨rfl, Exs.of hE, hG.ext hE⟩, .inl ⟨rfl, rfl, (setBad_iff hz).1 hb⟩⟩
  · have hnb := fun h => hb ((setBad_iff hz).2 h)
    have hn := Gr.nodup hG
    have key : ∀ (y : IV), ival y = ival x → NZ (putL l (p1, p2) y) ∧ (∀ k, zv (putL l (p1, p2) y) k = if (p1, p2) = k then ival x else zv l k) ∧ ((putL l (p1, p2) y).length : Int) = (l.length : Int) - (if zv l (p1, p2) ≠ 0 then 1 else 0) + (if ival x ≠ 0 then 1 else 0) := fun y e => by
      refine ⟨hz.put _ _, fun k => by rw [zv_putL hn, e], ?_⟩
      rw [putL_len, e]
      congr 2
      have h := hz.iff (p1, p2)
      by_cases h0 : zv l (p1, p2) = 0
      · have : (lkp l (p1, p2)).isSome = false := by
          cases hq : (lkp l (p1, p2)).isSome with
          | false => rfl
          | true => exact absurd h0 (h.1 hq)
        simp [this, h0]
      · have : (lkp l (p1, p2)).isSome = true := h.2 h0
        simp [this, h0]
    by_cases h0 : ival x = 0
    · refine (gset_zero w g m r c l p1 p2 x hG hp hx hxn h0).mono ?_
      intro e w' h
      have e1 : del l (p1, p2) = putL l (p1, p2) x := by unfold putL; rw [if_pos h0]
      rw [e1] at h
      exact ⟨0, _, h, .inr ⟨rfl, hnb, key x rfl⟩⟩
    · refine (gset_put w g m r c l p1 p2 x hG hp hx hxn hb h0).mono ?_
      rintro e w' ⟨y, hy, h⟩
      have e1 : ups l (p1, p2) y = putL l (p1, p2) y := by unfold putL; rw [if_neg (by rw [hy.val]; exact h0)]
      rw [e1] at h
      exact ⟨0, _, h, .inr ⟨rfl, hnb, key y hy.val⟩⟩
end Go.Proofs.Ytlpheckjogphmaa

set_option linter.unusedSectionVars false
namespace Go.Eng
open Go Go.Proofs Go.NatM Go.RowKit Go.Proofs.Ytlpheckjogphmaa
section
variable {P : Program} {σ : Go.Eng.Store} {H : Array Obj} {d : Option Tmp} {t : TypeId} {pos : String} {af : Array Edge} {gd : Option (Nat × Bool)}
theorem ev_convW {x : Operand} {ts td : TypeId} {ks kd k0 : IntKind} [hs : UInt P ts ks] [hd : UInt P td kd] {n m : Int} (h : Go.Eng.look σ x = some (.int k0 n)) (hn : kd.wrap n = m) :
    Ev P σ H ⟨d, .convert ts td x, t, pos, af, gd⟩ (.int kd m) := by
  subst hn
  unfold Ev
  intro ρ w hρ _
  simp [execOp, hρ x _ h, convert, run_underlying hs.out, run_underlying hd.out, Conv.intToInt]
theorem ev_negM {x : Operand} {ty : TypeId} (hx : Go.Eng.look σ x = some (.int .u64 18446744073709551615)) : Ev P σ H ⟨d, .unOp .neg ty x, t, pos, af, gd⟩ (.int .u64 1) := by
  unfold Ev
  intro ρ w hρ _
  have e1 : IntKind.u64.wrap (-18446744073709551615) = 1 := by decide
  simp [execOp, hρ x _ hx, Op.unary, Op.intArith, e1]
end
end Go.Eng
namespace Go.Proofs.Ytlpheckjogphmaa
open Go Go.Eng Go.Proofs Go.NatM Go.RowKit
theorem ofm1_ok (w : World) : Cl Try.prog 28 #[.int .i64 (-1)] w (RetZ w (-1) 1) := by
  refine enter Try.func28 rfl rfl rfl ?_
  repeat' (first | refine TL.ev (ev_simple rfl) rfl ?_ | (refine TL.call rfl rfl ?_; first | (refine (least_ok _ _ _ _ _ _ hSn (U64.one (by omega)) (by omega)).mono ?_; rintro _ wl ⟨Al, nl, cl, rfl, hOl, hEl, hKl⟩; refine Back.mk ?_; have hSl := hOl.sl (Nat.le_refl _); have hzl := hEl.size) | (refine (of_ok _ _ _ _ _ _ hSl).mono ?_; rintro _ wo ⟨rfl, hLo, hEo⟩; refine Back.mk ?_; have hzo := hEo.size)) | (refine TL.cmpG rfl rfl rfl rfl (fun hc => ?_) (fun hc => ?_) <;> try (exfalso; omega)) | (refine TL.ev (ev_convW (kd := .u64) (m := 18446744073709551615) rfl (by decide)) rfl ?_) | (refine TL.ev (ev_negM rfl) rfl ?_) | (refine TL.build1U rfl rfl (fun wn bn ebn hBn hEn hzn => ?_); have hSn := hBn.slN (n := 1) (c := 1) rfl (Nat.le_refl _) hBn.lt) | (refine TL.alloc rfl (fun wa ba eba hVa hEa hza => ?_); have hla := box_lo (w0 := w) (by repeat (first | exact Ext.refl _ | (refine Ext.trans ?_ (by assumption)) | (apply ext_upd; assumption; rotate_left; omega))) eba) | (refine TL.storeVX rfl rfl rfl rfl (by refine ⟨?_, ?_⟩; (focus (repeat (first | assumption | (apply Vr.ext; assumption) | (apply Vr.updX; assumption; rotate_left; omega)))); rfl) (fun ws hVs hUs hzs => ?_)) | refine T.seq ?_ | refine T.region ?_ | refine TL.nil ?_ | refine T.cond_t rfl ?_ | refine T.ret ?_ | refine G.next ?_ | refine G.thenR ?_)
  exact G.retC1 rfl rfl (held_agg hVs rfl) ⟨_, rfl, LI.updV hUs (by repeat (first | assumption | (apply Vr.ext; assumption) | (apply Vr.updX; assumption; rotate_left; omega))) rfl hLo, (by repeat (first | exact Ext.refl _ | (refine Ext.trans ?_ (by assumption)) | (apply ext_upd; assumption; rotate_left; omega))), hKl⟩
end Go.Proofs.Ytlpheckjogphmaa

set_option linter.unusedSectionVars false
namespace Go.Eng
open Go Go.Proofs Go.NatM Go.RowKit Go.Proofs.Ytlpheckjogphmaa
/-- a grid that holds the function Z, N places of it -/
def GZ (H : Array Obj) (g m r c : Nat) (Z : Int × Int → Int) (N : Nat) : Prop := ∃ l : GL, Gr H g m r c l ∧ NZ l ∧ l.length = N ∧ ∀ k, zv l k = Z k
theorem Gr.lts {H : Array Obj} {g m r c : Nat} {l : GL} (h : Gr H g m r c l) : g < H.size ∧ m < H.size := by
  obtain ⟨es, k, hm, _⟩ := h.mp
  exact ⟨h.cells.lt, (Array.getElem?_eq_some_iff.1 hm).1⟩
theorem Gr.de {H H' : Array Obj} {g m r c : Nat} {l : GL} (h : Gr H g m r c l) (hd : DE (fun k => k = g ∨ k = m) H H') : Gr H' g m r c l := by
  have e : (dpGr g m r c l).fp = fun k => k = g ∨ k = m := by unfold dpGr; rfl
  have := (dpGr g m r c l).st H H' (by rw [e]; exact hd) (by unfold dpGr; exact h)
  unfold dpGr at this; exact this
def dpGZ (g m r c : Nat) (Z : Int × Int → Int) (N : Nat) : DP := ⟨fun H => GZ H g m r c Z N, fun k => k = g ∨ k = m, fun H k h e => by
  obtain ⟨l, h, _⟩ := h
  rcases e with rfl | rfl
  · exact h.lts.1
  · exact h.lts.2, fun H H' hd h => by
  obtain ⟨l, h, k⟩ := h
  exact ⟨l, h.de hd, k⟩⟩
section
variable {S : Nat → Prop} {w0 w w' : World} {L : List VB} {D : List DP}
theorem Fr.gz {g m r c N : Nat} {Z : Int × Int → Int} (hF : Fr w0 w L D S) (h : dpGZ g m r c Z N ∈ D) : GZ w.heap g m r c Z N := by
  have := hF.data _ h
  unfold dpGZ at this; exact this
theorem GZ.ext {g m r c N : Nat} {Z : Int × Int → Int} (h : GZ w.heap g m r c Z N) (hE : Ext w w') : GZ w'.heap g m r c Z N := by
  obtain ⟨l, h, k⟩ := h
  exact ⟨l, h.ext hE, k⟩
theorem GZ.lt {H : Array Obj} {g m r c N : Nat} {Z : Int × Int → Int} (h : GZ H g m r c Z N) : g < H.size ∧ m < H.size := by
  obtain ⟨l, h, _⟩ := h
  exact h.lts
theorem Fr.addZ {g m r c N : Nat} {Z : Int × Int → Int} (hF : Fr w0 w L D S) (hE : Ext w w') (hg : w.heap.size ≤ g) (hm : w.heap.size ≤ m) (hG : GZ w'.heap g m r c Z N) : Fr w0 w' L (dpGZ g m r c Z N :: D) S :=
  hF.addNew hE _ (by unfold dpGZ; exact hG) fun k hk => by
    unfold dpGZ at hk
    rcases hk with rfl | rfl
    · exact hg
    · exact hm
theorem Fr.callZ {g m r c N N' : Nat} {Z Z' : Int × Int → Int} (hF : Fr w0 w L (dpGZ g m r c Z N :: D) S) (hE : Exs (fun k => k = m) w w') (hb : w0.heap.size ≤ m ∨ S m) (hfree : ∀ x ∈ D, ¬ x.fp m) (hG : GZ w'.heap g m r c Z' N') : Fr w0 w' L (dpGZ g m r c Z' N' :: D) S := by
  obtain ⟨l, hg, _⟩ := hF.gz (List.mem_cons_self ..)
  obtain ⟨es, k, hm, _⟩ := hg.mp
  refine hF.callX hE hm rfl hb hfree (by unfold dpGZ; exact hG) fun _ h => ?_
  unfold dpGZ at h ⊢; exact h
end
/-- a place of a function, told anew -/
def updZ (Z : Int × Int → Int) (p : Int × Int) (z : Int) (k : Int × Int) : Int := if p = k then z else Z k
/-- a row and kv times another -/
def rowF (Z : Int × Int → Int) (i j kv : Int) (k : Int × Int) : Int := if k.1 = i then Z (i, k.2) + kv * Z (j, k.2) else Z k
theorem rowZ_eq {l : GL} {Z : Int × Int → Int} (h : ∀ k, zv l k = Z k) (i j kv : Int) (k : Int × Int) : rowZ l i j kv k = rowF Z i j kv k := by
  unfold rowZ rowF; simp only [h]
end Go.Eng
namespace Go.Proofs.Ytlpheckjogphmaa
open Go Go.Eng Go.Proofs Go.NatM Go.RowKit
/-- what Set refuses -/
def SetBz (Z : Int × Int → Int) (N : Nat) (p : Int × Int) (z : Int) : Prop := bigZ z ∨ (Z p = 0 ∧ z ≠ 0 ∧ 4096 ≤ N)
def RetF (w : World) (g m r c : Nat) (Z : Int × Int → Int) (N : Nat) (er : Int) (e : Ending) (w' : World) : Prop := e = .returned (.int .i64 er) ∧ Exs (fun k => k = m) w w' ∧ GZ w'.heap g m r c Z N
theorem setF5 (w : World) (g m r c N : Nat) (Z : Int × Int → Int) (p1 p2 : Int) (x : IV) (hG : GZ w.heap g m r c Z N) (hp : (0 ≤ p1 ∧ p1 < (r : Int)) ∧ (0 ≤ p2 ∧ p2 < (c : Int))) (hx : GI w.heap x) (hxn : x.m.n ≤ 1099511627776) (hb : SetBz Z N (p1, p2) (ival x)) :
    Cl Try.prog 16 #[.pointer (some ⟨g, 0, none⟩), .int .i64 p1, .int .i64 p2, ivA x] w (RetF w g m r c Z N 5) := by
  obtain ⟨l, hG, hz, hN, hv⟩ := hG
  have hb' : SetBad l (p1, p2) (ival x) := by unfold SetBad; rw [hv, hN]; exact hb
  refine (gsetZ_ok w g m r c l p1 p2 x hG hz hp hx hxn).mono ?_
  rintro e w' ⟨er, l2, ⟨rfl, hE, hG2⟩, ⟨rfl, rfl, _⟩ | ⟨_, hnb, _⟩⟩
  · exact ⟨rfl, hE, _, hG2, hz, hN, hv⟩
  · exact absurd hb' hnb
end Go.Proofs.Ytlpheckjogphmaa

set_option linter.unusedSectionVars false
namespace Go.Eng
open Go Go.Proofs Go.NatM Go.RowKit Go.Proofs.Ytlpheckjogphmaa
abbrev ZF := Int × Int → Int
/-- nothing stands outside n rows and columns -/
def InS (n : Nat) (Z : ZF) : Prop := ∀ k, Z k ≠ 0 → (0 ≤ k.1 ∧ k.1 < (n : Int)) ∧ (0 ≤ k.2 ∧ k.2 < (n : Int))
def addF (A B : ZF) (k : Int × Int) : Int := A k + B k
theorem zv_cons {p : (Int × Int) × IV} {l : GL} (h : p.1 ∉ l.map (·.1)) (k : Int × Int) : zv (p :: l) k = zv l k + (if p.1 = k then ival p.2 else 0) := by
  by_cases hk : p.1 = k
  · subst hk
    rw [if_pos rfl, zv_none (lkp_none.2 h), Int.zero_add]
    exact zv_some (by simp [lkp])
  · rw [if_neg hk, Int.add_zero]
    unfold zv at0
    have : lkp (p :: l) k = lkp l k := by simp [lkp, hk]
    rw [this]
theorem InS.add {n : Nat} {A B : ZF} (hA : InS n A) (hB : InS n B) : InS n (addF A B) := fun k hk => by
  by_cases h : A k = 0
  · exact hB k fun e => hk (by unfold addF; rw [h, e]; rfl)
  · exact hA k h
theorem zv_mem {p : (Int × Int) × IV} : ∀ {l : GL}, (l.map (·.1)).Nodup → p ∈ l → zv l p.1 = ival p.2
  | [], _, h => by cases h
  | q :: l, hn, h => by
    have hn' := List.nodup_cons.1 hn
    rw [zv_cons hn'.1]
    rcases List.mem_cons.1 h with rfl | h
    · rw [if_pos rfl, zv_none (lkp_none.2 hn'.1), Int.zero_add]
    · rw [zv_mem hn'.2 h, if_neg fun e => hn'.1 (show q.1 ∈ l.map (·.1) by rw [e]; exact List.mem_map_of_mem h), Int.add_zero]
theorem cross_len {α β γ : Type} (f : α → β → γ) (b : List β) : ∀ a : List α, ((a.map fun p => b.map fun q => f p q).flatten).length = a.length * b.length
  | [] => by simp
  | p :: a => by
    have ih := cross_len f b a
    simp only [List.map_cons, List.flatten_cons, List.length_append, List.length_map, List.length_cons, Nat.add_mul, Nat.one_mul]
    omega
/-- no number of a function has more than X binary digits -/
def BlZ (Z : ZF) (X : Nat) : Prop := ∀ k, bl (Z k).natAbs ≤ X
end Go.Eng

set_option linter.unusedSectionVars false
namespace Go.Eng
open Go Go.Proofs Go.NatM Go.RowKit Go.Proofs.Ytlpheckjogphmaa
/-- a function that a grid can hold -/
def FitZ (Z : ZF) : Prop := (∀ k, ¬ bigZ (Z k)) ∧ ∀ ks : List (Int × Int), ks.Nodup → (∀ k ∈ ks, Z k ≠ 0) → ks.length ≤ 4096
theorem FitZ.congr {Z Z' : ZF} (h : FitZ Z) (e : ∀ k, Z' k = Z k) : FitZ Z' := by rw [funext e]; exact h
/-- two lists in order with the same places -/
theorem sorted_keys : ∀ {a b : List (Int × Int)}, a.Pairwise plt → b.Pairwise plt → (∀ k, k ∈ a ↔ k ∈ b) → a = b
  | [], [], _, _, _ => rfl
  | [], y :: b, _, _, h => absurd ((h y).2 (List.mem_cons_self ..)) (List.not_mem_nil)
  | x :: a, [], _, _, h => absurd ((h x).1 (List.mem_cons_self ..)) (List.not_mem_nil)
  | x :: a, y :: b, ha, hb, h => by
    have ha' := List.pairwise_cons.1 ha
    have hb' := List.pairwise_cons.1 hb
    have asy : ∀ u v : Int × Int, plt u v → plt v u → False := fun u v h1 h2 => by unfold plt at h1 h2; omega
    have irr : ∀ u : Int × Int, ¬ plt u u := fun u h => asy u u h h
    have hxy : x = y := by
      rcases List.mem_cons.1 ((h x).1 (List.mem_cons_self ..)) with e | hx
      · exact e
      · rcases List.mem_cons.1 ((h y).2 (List.mem_cons_self ..)) with e | hy
        · exact e.symm
        · exact (asy x y (ha'.1 y hy) (hb'.1 x hx)).elim
    subst hxy
    rw [sorted_keys ha'.2 hb'.2 fun k => ⟨fun hk => by
      rcases List.mem_cons.1 ((h k).1 (List.mem_cons_of_mem _ hk)) with e | hk'
      · subst e; exact (irr _ (ha'.1 _ hk)).elim
      · exact hk', fun hk => by
      rcases List.mem_cons.1 ((h k).2 (List.mem_cons_of_mem _ hk)) with e | hk'
      · subst e; exact (irr _ (hb'.1 _ hk)).elim
      · exact hk'⟩]
/-- a grid's places in order -/
structure PlF (ls : GL) (Z : ZF) (N : Nat) : Prop where
  so : SortedPl ls
  nd : (ls.map (·.1)).Nodup
  nz : NZ ls
  len : ls.length = N
  val : ∀ k, zv ls k = Z k
theorem PlF.same {a b : GL} {Z : ZF} {N M : Nat} (ha : PlF a Z N) (hb : PlF b Z M) : a.map (·.1) = b.map (·.1) := by
  refine sorted_keys (List.pairwise_map.2 ha.so) (List.pairwise_map.2 hb.so) fun k => ?_
  rw [ha.nz.keys, hb.nz.keys, ha.val, hb.val]
theorem PlF.at_ {a b : GL} {Z : ZF} {N M i : Nat} (ha : PlF a Z N) (hb : PlF b Z M) {p q : (Int × Int) × IV} (hp : a[i]? = some p) (hq : b[i]? = some q) : p.1 = q.1 ∧ ival p.2 = ival q.2 := by
  have e := ha.same hb
  have e1 : (a.map (·.1))[i]? = some p.1 := by rw [List.getElem?_map, hp]; rfl
  have e2 : (b.map (·.1))[i]? = some q.1 := by rw [List.getElem?_map, hq]; rfl
  rw [e, e2] at e1
  have e3 : q.1 = p.1 := Option.some.inj e1
  refine ⟨e3.symm, ?_⟩
  rw [← zv_mem ha.nd (List.mem_of_getElem? hp), ← zv_mem hb.nd (List.mem_of_getElem? hq), ha.val, hb.val, e3]
theorem Fr.addPl {S : Nat → Prop} {w0 w w' : World} {L : List VB} {D : List DP} {b N c : Nat} {ls : GL} (hF : Fr w0 w L D S) (hE : Ext w w') (hb : w.heap.size ≤ b) (hs : Sm 4 plc w'.heap w'.heap.size (some ⟨b, 0, none⟩) N c ls) (hv : ∀ p ∈ ls, LI w'.heap (ival p.2) p.2 ∧ p.2.m.n ≤ 16384) : Fr w0 w' L (dpGv ls :: dpSmG 4 plc (some ⟨b, 0, none⟩) N c ls :: D) S :=
  Fr.addGv (Fr.addSm' hF hE hs fun k hk => by
    obtain ⟨_, o, e⟩ := hk
    cases e
    exact hb) hv
end Go.Eng
namespace Go.Proofs.Ytlpheckjogphmaa
open Go Go.Eng Go.Proofs Go.NatM Go.RowKit
theorem GZ.inr {H : Array Obj} {g m r c N n : Nat} {Z : ZF} {l : GL} (hz : NZ l) (hv : ∀ k, zv l k = Z k) (hi : InS n Z) : ∀ p ∈ l, 0 ≤ p.1.2 ∧ p.1.2 < (n : Int) := fun p hp => (hi p.1 (by rw [← hv]; exact (hz.keys _).1 (List.mem_map_of_mem hp))).2
def RetPq (w : World) (Z : ZF) (N : Nat) (e : Ending) (w' : World) : Prop := ∃ (ls : GL) (b c : Nat), e = .returned (.slice (some ⟨b, 0, none⟩) N c) ∧ Ext w w' ∧ w.heap.size ≤ b ∧ Sm 4 plc w'.heap w'.heap.size (some ⟨b, 0, none⟩) N c ls ∧ (∀ p ∈ ls, LI w'.heap (ival p.2) p.2 ∧ p.2.m.n ≤ 16384) ∧ PlF ls Z N
theorem placesS (w : World) (g m r c N : Nat) (Z : ZF) (hG : GZ w.heap g m r c Z N) (hl : N ≤ 4096) : Cl Try.prog 13 #[.pointer (some ⟨g, 0, none⟩)] w (RetPq w Z N) := by
  obtain ⟨l, hG, hz, rfl, hv⟩ := hG
  refine (gplaces_ok sort_ok w g m r c l hG (by omega)).mono ?_
  rintro e w' ⟨ls, b, c', zs, rfl, ⟨hlc, _, _⟩, hF, hso, hnd, hlen, hk⟩
  have hb := (hF.vars _ (List.mem_cons_self ..)).1.resolve_right id
  have hzv : ∀ k, zv ls k = Z k := fun k => by rw [zv_zk, hk, ← zv_zk, hv]
  rw [hlen] at hlc ⊢
  refine ⟨ls, b, c', rfl, hF.ext, hb, pb_sm hF (by repeat (first | exact InV.head | apply InV.tail)) hlen hlc, Fr.gv (l := ls) hF (by repeat (first | exact memH | apply memT)), hso, hnd, fun p hp => ?_, hlen, hzv⟩
  have h1 := hk p.1
  have h2 : zk ls p.1 = some (ival p.2) := by unfold zk; rw [lkp_of_mem hnd (x := p.1) (v := p.2) hp]; rfl
  rw [h2] at h1
  unfold zk at h1
  cases hq : lkp l p.1 with
  | none => rw [hq] at h1; cases h1
  | some y =>
    rw [hq] at h1
    have e1 : ival p.2 = ival y := Option.some.inj h1
    rw [e1]
    exact hz _ (lkp_mem hq)
end Go.Proofs.Ytlpheckjogphmaa

set_option linter.unusedSectionVars false
namespace Go.Proofs.Ytlpheckjogphmaa
open Go Go.Eng Go.Proofs Go.NatM Go.RowKit
theorem alikeS (w : World) (x y : IV) (gx : GI w.heap x) (gy : GI w.heap y) (hl : x.m.l = y.m.l) (hn : x.neg = y.neg) (hx : x.m.n ≤ 1099511627776) (hy : y.m.n ≤ 1099511627776) : Cl Try.prog 17 #[ivA x, ivA y] w (YesM w) := by
  have hs := gx.s
  have hs' := gy.s
  obtain ⟨xn, ⟨xA, xk, xc, xl⟩⟩ := x
  obtain ⟨yn, ⟨yA, yk, yc, yl⟩⟩ := y
  dsimp only at hl hn hx hy hs hs'
  subst hn
  refine enter Try.func17 rfl rfl rfl ?_
  have hF := Fr.refl w
  repeat' (first | (refine TL.isOp ?_; first | (refine TL.isG ?_; first | refine TL.grun rfl rfl rfl ?_) | (refine TL.isCall ?_; refine TL.call rfl rfl ?_; first | (refine (same_t _ _ _ xA yA xk xc yk yc xl yl (hs.ext hF.ext) (hs'.ext hF.ext) (by omega) (by omega) hl).clX.mono ?_; rintro _ wc ⟨rfl, _, hE⟩; replace hF := hF.exts hE; clear hE; refine Back.mk ?_)) | (apply TL.ev; (case hd => rfl); (case h => (first | exact ev_simple rfl | (apply Ev.isBin; first | exact ev_eqlB (r := true) rfl rfl (beq_self_eq_true _)) | (apply Ev.isLoad; first | exact ev_loadFr hF rfl (by refine ⟨?_, ?_⟩; (focus (repeat (first | exact InV.head | apply InV.tail))); rfl)) | exact ev_fieldAddr rfl))) | (refine TL.boxAFr hF (d := 2) (cs := [.bool xn, .slice xA xk xc]) rfl rfl ?_; clear hF; intro w2 b2 hF) | (refine TL.boxAFr hF (d := 3) (cs := [.bool xn, .slice yA yk yc]) rfl rfl ?_; clear hF; intro w3 b3 hF)) | (refine T.is ?_; first | refine T.seq ?_ | refine T.region ?_ | refine T.ret ?_) | (refine G.is ?_; first | refine G.next ?_) | refine TL.nil ?_)
  all_goals exact G.ret1 rfl rfl ⟨rfl, hF.ext⟩
theorem alikeL (w : World) (x y : IV) {z : Int} (gx : LI w.heap z x) (gy : LI w.heap z y) (hx : x.m.n ≤ 1099511627776) (hy : y.m.n ≤ 1099511627776) : Cl Try.prog 17 #[ivA x, ivA y] w (YesM w) :=
  alikeS w x y gx.g gy.g (by rw [gx.d, gy.d]) (by rw [gx.e, gy.e]) hx hy
end Go.Proofs.Ytlpheckjogphmaa

set_option linter.unusedSectionVars false
namespace Go.Eng
open Go Go.Proofs Go.NatM Go.RowKit Go.Proofs.Ytlpheckjogphmaa
/-- code that does not begin with this region -/
def notHead (id : Nat) : Code → Bool
  | .region i _ _ => !(Nat.beq i id)
  | .seq a _ => notHead id a
  | _ => true
theorem T.seqM {P : Program} {N : Fm} {Q : Exit → Act → World → Prop} {σ : Go.Eng.Store} {w : World} {x y : Code} (id : Nat) (hn : notHead id x = true) (h : T P N x (Exit.then (y.wp P Q) Q) σ w) : T P N (x.seq y) Q σ w := T.seq h
/-- the functions that the law's grid goes through -/
structure FullF (a vv vy : Int) (Z0 Z2 Z3 : Int × Int → Int) : Prop where
  free : Z0 (1, (a + 4096) % 5000) = 0
  row : ∀ p : Int, Z0 (0, p) = 0
  at_ : Z0 (1, a) = vv
  two : ∀ k, updZ Z0 (1, a) vy k = Z2 k
  row2 : ∀ k, Z2 k ≠ 0 → k.1 = 1
  one2 : Z2 (1, (a + 1) % 5000) = vv
  zero2 : Z2 (0, (a + 1) % 5000) = 0
  sm2 : ∀ k, ¬ bigZ (Z2 k)
  three : ∀ k, rowF Z2 1 1 1 k = Z3 k
  sm3 : ∀ k, ¬ bigZ (Z3 k)
  iff3 : ∀ k, Z3 k ≠ 0 ↔ Z2 k ≠ 0
  one3 : Z3 (1, (a + 1) % 5000) = vv + vv
  row3 : ∀ k, Z3 k ≠ 0 → k.1 = 1
end Go.Eng
namespace Go.Proofs.Ytlpheckjogphmaa
open Go Go.Eng Go.Proofs Go.NatM Go.RowKit

end Go.Proofs.Ytlpheckjogphmaa

set_option linter.unusedSectionVars false
namespace Go.Eng
open Go Go.Proofs Go.NatM Go.RowKit Go.Proofs.Ytlpheckjogphmaa
theorem PlF.bl {ls : GL} {Z : ZF} {N X : Nat} (h : PlF ls Z N) (hb : ∀ j p, j < N → ls[j]? = some p → bl (ival p.2).natAbs ≤ X) : BlZ Z X := fun k => by
  by_cases h0 : Z k = 0
  · rw [h0]; exact Nat.zero_le _
  · rw [← h.val] at h0
    obtain ⟨p, hp, e⟩ := List.mem_map.1 ((h.nz.keys k).2 h0)
    obtain ⟨j, hj⟩ := List.mem_iff_getElem?.1 hp
    rw [← h.val, ← e, zv_mem h.nd hp]
    exact hb j p (by rw [← h.len]; exact (List.getElem?_eq_some_iff.1 hj).1) hj
end Go.Eng
namespace Go.Proofs.Ytlpheckjogphmaa
open Go Go.Eng Go.Proofs Go.NatM Go.RowKit
end Go.Proofs.Ytlpheckjogphmaa

set_option linter.unusedSectionVars false
namespace Go.Eng
open Go Go.Proofs Go.NatM Go.RowKit Go.Proofs.Ytlpheckjogphmaa
section
variable {P : Program} {N : Fm} {Q : Exit → Act → World → Prop} {σ : Go.Eng.Store} {S : Nat → Prop} {w0 w : World} {L : List VB} {D : List DP} {l : List Oper}
/-- a drawn region in which the newest fact may change -/
theorem T.regionFd {d : DP} (hF : Fr w0 w L (d :: D) S) (id : Nat) (f : Nat) (t : Rt) (hm : P.follows .mixedOrders = true) (hB : treeB l.toArray f t = true)
    (h : ∀ w1 : World, Fr w0 w1 L (d :: D) S → TF P N l Q (fun w' => Fr w0 w' L D S) f t σ w1) : T P N (.region id l.toArray true) Q σ w :=
  T.regionF _ f t hm hB ((hF.weak (List.Sublist.refl _) (allT allR)).exts (ext_drewN w 1)) (h _ (hF.exts (ext_drewN w 1)))
end
end Go.Eng
namespace Go.Proofs.Ytlpheckjogphmaa
open Go Go.Eng Go.Proofs Go.NatM Go.RowKit
end Go.Proofs.Ytlpheckjogphmaa

namespace Go.Eng
open Go Go.RowKit
/-- what rounds keep: what is neither cells nor a map -/
structure KeepO (W W' : World) : Prop where
  size : W.heap.size ≤ W'.heap.size
  same : ∀ (k : Nat) (o : Obj), W.heap[k]? = some o → keepsObj o = false → W'.heap[k]? = some o
section
variable {S : Nat → Prop} {w0 w w' W : World} {L : List VB} {D : List DP} {B : Nat}
structure OpnK (w0 W : World) (S : Nat → Prop) : Prop where
  ext : Ext w0 W
  lo : ∀ k, S k → w0.heap.size ≤ k
  cells : ∀ k, S k → ∃ o : Obj, W.heap[k]? = some o ∧ keepsObj o = true
/-- from W on: the blocks of L may be written, and one map -/
theorem Fr.openK (h : Fr w0 W L D) {m : Nat} {x : Obj} (hm : w0.heap.size ≤ m) (hx : W.heap[m]? = some x) (hk : keepsObj x = true) : ∃ S, OpnK w0 W S ∧ Fr W W L D S ∧ S m :=
  ⟨fun k => (∃ v ∈ L, v.b = k) ∨ k = m, ⟨h.ext, fun k hS => by
      rcases hS with ⟨v, hv, e⟩ | e
      · rcases (h.vars v hv).1 with h1 | h1
        · exact e ▸ h1
        · exact h1.elim
      · exact e ▸ hm, fun k hS => by
      rcases hS with ⟨v, hv, e⟩ | e
      · exact ⟨_, e ▸ (h.vars v hv).2, rfl⟩
      · exact ⟨x, e ▸ hx, hk⟩⟩,
    ⟨Exs.refl _ _, fun v hv => ⟨.inr (.inl ⟨v, hv, rfl⟩), (h.vars v hv).2⟩, h.dist, h.data, h.apart⟩, .inr rfl⟩
theorem Fr.outerK (hO : OpnK w0 W S) (h : Fr W w L D S) : Ext w0 w :=
  ⟨h.exs.os.trans hO.ext.os, h.exs.tape.trans hO.ext.tape, h.exs.output.trans hO.ext.output, Nat.le_trans hO.ext.size h.exs.size, fun k hk => (h.exs.block k (Nat.lt_of_lt_of_le hk hO.ext.size) (fun hs => by have := hO.lo k hs; omega)).trans (hO.ext.block k hk)⟩
theorem Fr.shutK (hO : OpnK w0 W S) (h : Fr W w L D S) : Fr w0 w L D :=
  ⟨.of (h.outerK hO), fun v hv => ⟨.inl (by rcases (h.vars v hv).1 with h1 | h1; exact Nat.le_trans hO.ext.size h1; exact hO.lo _ h1), (h.vars v hv).2⟩, h.dist, h.data, h.apart⟩
theorem Fr.othersK (hO : OpnK w0 W S) (h : Fr W w L D S) : KeepO W w :=
  ⟨h.exs.size, fun k o hk ho => (h.exs.block k (Array.getElem?_eq_some_iff.1 hk).1 (fun hs => by obtain ⟨o', h1, h2⟩ := hO.cells k hs; rw [hk] at h1; cases h1; rw [ho] at h2; cases h2)).trans hk⟩
end
theorem TI.mk {P : Program} {R : Option Nat} {N : Fm} {c : Code} {Q : Exit → Act → World → Prop} {σ : Store} {w : World} (h : NoOut Q → ∀ a, Rep N σ a → c.wpIn (wideR R) 0 P Q a w) : TI P R N c Q σ w := by unfold TI; exact h
theorem TI.run {P : Program} {R : Option Nat} {N : Fm} {c : Code} {Q : Exit → Act → World → Prop} {σ : Store} {w : World} (h : TI P R N c Q σ w) (hno : NoOut Q) {a : Act} (ha : Rep N σ a) : c.wpIn (wideR R) 0 P Q a w := by unfold TI at h; exact h hno a ha
/-- how the body of a round may be left -/
def RPostK (I : World → Prop) (Ix : Code → World → Prop) (W : World) : Exit → Act → World → Prop
  | .normal, _, w' => KeepO W w' ∧ I w'
  | .ret, _, w' => KeepO W w' ∧ Ix .ret w'
  | .exit id, _, w' => KeepO W w' ∧ Ix (.exit id) w'
  | _, _, _ => False
/-- behind the assignment to the loop's left sides -/
def BegunK (P : Program) (B l : Nat) (body : Code) (I : World → Prop) (Ix : Code → World → Prop) (W : World) (a₁ : Act) (w₁ : World) : Prop :=
  KeepO W w₁ ∧ ∀ w₂, Cx B w₁ w₂ → (∃ r, w₂.heap[l]? = some (.loop r)) → body.wpIn (wideR (some l)) 0 P (RPostK I Ix w₂) a₁ w₂
theorem G.begunK {P : Program} {N : Fm} {σ : Store} {B l : Nat} {body : Code} {I : World → Prop} {Ix : Code → World → Prop} {Q : Exit → Act → World → Prop} {W w : World} (hK : KeepO W w)
    (h : ∀ w₂, Cx B w w₂ → (∃ r, w₂.heap[l]? = some (.loop r)) → TI P (some l) N body (RPostK I Ix w₂) σ w₂) : G N .normal (Exit.then (BegunK P B l body I Ix W) Q) σ w := by
  unfold G; exact fun a ha => ⟨hK, fun w₂ hc hr => (h w₂ hc hr).run (fun _ _ h => h) ha⟩
theorem TI.rangeFuncK {P : Program} {n : Nat} {Q : Exit → Act → World → Prop} {σ : Store} {w : World} {g : Operand} {ps : List Nat} {assign body : Code} {gf : FuncId} {cap : List Value} {β : Type} {args : β → List Value} {m : Nat} {It : World → Prop} {Fx : Nat → β → World → World → Prop}
    (hIt : Iter P gf cap args m It Fx) (hg : look σ g = some (.func (.func gf) #[] cap.toArray)) (hfn : IsFn P gf) (hps : ∀ x, (args x).length = ps.length) (hpn : ps.all (fun p => Nat.blt p n) = true)
    (it0 : It w) (hItc : ∀ W W', It W → Cx w.heap.size W W' → It W')
    (I : Nat → World → Prop) (Ix : Code → World → Prop) (hI : ∀ i W W', I i W → Cx w.heap.size W W' → I i W') (hIx : ∀ c W W', Ix c W → Cx w.heap.size W W' → Ix c W') (h0 : I 0 w)
    (hround : ∀ l i x Wb W, i < m → w.heap.size + 1 ≤ l → (∃ r, W.heap[l]? = some (.loop r)) → I i Wb → It Wb → Ext Wb W → Fx i x Wb W → TI P (some l) ⟨n, []⟩ assign (Exit.then (BegunK P w.heap.size l body (fun w' => I (i + 1) w' ∧ It w') Ix W) (fun _ _ _ => False)) (putAll ps (args x) σ) W)
    (hdone : ∀ D w', w.heap.size ≤ D → w'.heap[D]? = some (.deferred (some [])) → I m w' → It w' → G ⟨n, [markOf D]⟩ .normal Q σ w')
    (hstop : ∀ D c w', w.heap.size ≤ D → w'.heap[D]? = some (.deferred (some [])) → Ix c w' → TI P none ⟨n, [markOf D]⟩ c Q σ w') :
    TI P none ⟨n, []⟩ (.rangeFunc g ps.toArray assign body) Q σ w := by
  refine TI.mk fun hno a ha => ?_
  refine wpIn_rangeFunc (F := wideR none) (n := 0) ?_
  intro fn _
  have hnd : a.defers = [] := ha.nodef
  obtain ⟨rec, hrec⟩ : ∃ rec : LoopState → Option Code → Loop, rec = fun st pe => { state := st, pending := pe, fn, tmps := a.tmps, params := ps.toArray, assign, body, defers := w.heap.size } := ⟨_, rfl⟩
  obtain ⟨W1, hW1⟩ : ∃ W1, (w.alloc (.deferred (some []))).alloc (.loop (rec .ready none)) = W1 := ⟨_, rfl⟩
  have hE1 : Ext w W1 := by rw [← hW1]; exact Ext.trans (ext_alloc _ _) (ext_alloc _ _)
  have hL1 : W1.heap[w.heap.size + 1]? = some (.loop (rec .ready none)) := by
    rw [← hW1]; have := World.alloc_heap_new (w.alloc (.deferred (some []))) (.loop (rec .ready none)); rwa [World.size_alloc] at this
  have hK1 : W1.heap[w.heap.size]? = some (.deferred (some [])) := by
    rw [← hW1]; exact (Below.heap_alloc _ _ _ (by simp)).trans (World.alloc_heap_new w _)
  have ef := ha.agree _ _ hg
  refine ⟨w.heap.size + 1, [markOf w.heap.size], W1, { target := .fn (.func gf) cap.toArray, args := #[.func (.yield (w.heap.size + 1)) #[] #[]] }, W1, gf,
    (Value.func (.yield (w.heap.size + 1)) #[] #[] :: cap).toArray, W1, ?_, ?_, fun _ _ => trivial, ?_, fun e => (by cases e), ?_⟩
  · rw [← hW1, hrec]; exact run_enterLoop_outer _ _ _ _ _
  · simp only [resolve, ef]
    simp [go_sem]
  · simp [invoke, run_callFunc_enter hfn]
  · have recE : ∀ {W W' : World} {o : Obj} {k : Nat}, W.heap[k]? = some o → Ext W W' → W'.heap[k]? = some o := fun h hE => (hE.block _ (Array.getElem?_eq_some_iff.1 h).1).trans h
    refine calls_in ((hIt (w.heap.size + 1) (fun i W => I i W ∧ W.heap[w.heap.size + 1]? = some (.loop (rec .ready none)) ∧ W.heap[w.heap.size]? = some (.deferred (some [])))
      (fun W => ∃ c, Ix c W ∧ W.heap[w.heap.size + 1]? = some (.loop (rec .done (some c))) ∧ W.heap[w.heap.size]? = some (.deferred (some []))) W1
      (fun i W W' h hE => ⟨hI i W W' h.1 (.of hE), recE h.2.1 hE, recE h.2.2 hE⟩) (fun W W' ⟨c, h⟩ hE => ⟨c, hIx c W W' h.1 (.of hE), recE h.2.1 hE, recE h.2.2 hE⟩)
      (hItc _ _ it0 (.of hE1)) ⟨hI _ _ _ h0 (.of hE1), hL1, hK1⟩ ?_).mono ?_)
    · rintro i x Wb W hi ⟨hi0, hl, hk⟩ hit hEb hfx
      replace hl := recE hl hEb
      replace hk := recE hk hEb
      have hlt : w.heap.size + 1 < W.heap.size := (Array.getElem?_eq_some_iff.1 hl).1
      have hy := run_yield (P := P) (args := (args x).toArray) hl (by rw [hrec]; simpa using hps x)
      rw [hrec] at hy
      refine ⟨fn, _, assign, body, hy, roundIn_of_wpIn (F := Fence.wide) (n := 0) trivial ?_⟩
      have hrep : Rep ⟨n, []⟩ (putAll ps (args x) σ) { tmps := (ps.toArray.zip (args x).toArray).foldl (fun t (x : Nat × Value) => t.setIfInBounds x.1 x.2) a.tmps, defers := [] } := by
        have := Rep.fold ps (args x) ha hpn
        rw [hnd] at this
        simpa [List.zip_toArray] using this
      refine wpIn_mono ((hround (w.heap.size + 1) i x Wb W hi (Nat.le_refl _) ⟨_, hl⟩ hi0 hit hEb hfx).run (fun _ _ h => h) hrep) ?_
      rintro e a₁ w₁ hq
      cases e with
      | normal =>
        obtain ⟨hk1, hbody⟩ := hq
        have hl1 := hk1.same _ _ hl rfl
        have hd1 := hk1.same _ _ hk rfl
        have hlt1 := (Array.getElem?_eq_some_iff.1 hl1).1
        refine ⟨_, run_beginRound hl1 (by rw [hrec]), ?_⟩
        have hc2 : Cx w.heap.size w₁ (w₁.putObj (w.heap.size + 1) (.loop { rec .ready none with state := .busy })) := .put _ (by omega) hl1 rfl
        have hl2 : (w₁.putObj (w.heap.size + 1) (.loop { rec .ready none with state := .busy })).heap[w.heap.size + 1]? = some (.loop { rec .ready none with state := .busy }) := World.putObj_heap_same hlt1
        have hk2 : (w₁.putObj (w.heap.size + 1) (.loop { rec .ready none with state := .busy })).heap[w.heap.size]? = some (.deferred (some [])) := (World.putObj_heap_other (by omega)).trans hd1
        refine wpIn_mono (hbody _ hc2 ⟨_, hl2⟩) ?_
        have fin : ∀ (jump : Option Code) (W3 : World), KeepO (w₁.putObj (w.heap.size + 1) (.loop { rec .ready none with state := .busy })) W3 →
            ∃ W4, (Instr.endRound (w.heap.size + 1) jump).run P W3 = .ok (.bool jump.isNone) W4 ∧ Cx w.heap.size W3 W4 ∧
            W4.heap[w.heap.size + 1]? = some (.loop (rec (if jump.isNone then .ready else .done) jump)) ∧ W4.heap[w.heap.size]? = some (.deferred (some [])) := fun jump W3 hk3 => by
          have hl3 := hk3.same _ _ hl2 rfl
          have := run_endRound (P := P) jump hl3
          refine ⟨_, this, .put _ (by omega) hl3 rfl, ?_, (World.putObj_heap_other (by omega)).trans (hk3.same _ _ hk2 rfl)⟩
          rw [World.putObj_heap_same (Array.getElem?_eq_some_iff.1 hl3).1, hrec]
        rintro e a3 W3 hp
        cases e with
        | normal =>
          obtain ⟨W4, hr, hc4, hl4, hk4⟩ := fin none W3 hp.1
          exact ⟨_, _, hr, .inl ⟨rfl, ⟨hI _ _ _ hp.2.1 hc4, hl4, hk4⟩, hItc _ _ hp.2.2 hc4⟩⟩
        | ret =>
          obtain ⟨W4, hr, hc4, hl4, hk4⟩ := fin (some .ret) W3 hp.1
          exact ⟨_, _, hr, .inr ⟨rfl, .ret, hIx _ _ _ hp.2 hc4, hl4, hk4⟩⟩
        | exit id =>
          obtain ⟨W4, hr, hc4, hl4, hk4⟩ := fin (some (.exit id)) W3 hp.1
          exact ⟨_, _, hr, .inr ⟨rfl, .exit id, hIx _ _ _ hp.2 hc4, hl4, hk4⟩⟩
        | goto t => exact hp.elim
        | panic ch => exact hp.elim
        | outgrown => exact hp.elim
      | _ => exact hq.elim
    · rintro e W2 ⟨⟨v, rfl⟩, (⟨⟨hi, hl, hk⟩, hit⟩ | ⟨c, hi, hl, hk⟩)⟩
      · have hc : Cx w.heap.size W2 (W2.putObj (w.heap.size + 1) (.loop { rec .ready none with state := .exhausted })) := .put _ (by omega) hl rfl
        have hq := hdone w.heap.size _ (Nat.le_refl _) ((World.putObj_heap_other (by omega)).trans hk) (hI _ _ _ hi hc) (hItc _ _ hit hc)
        unfold G at hq
        refine ⟨none, _, (run_endLoop (P := P) hl (by rw [hrec]; simp)).trans (congrArg (fun x => Result.ok x _) (show (rec .ready none).pending = none by rw [hrec])), ?_⟩
        exact hq _ ⟨ha.size, by simp [hnd], ha.get⟩
      · have hc : Cx w.heap.size W2 (W2.putObj (w.heap.size + 1) (.loop { rec .done (some c) with state := .exhausted })) := .put _ (by omega) hl rfl
        refine ⟨some c, _, (run_endLoop (P := P) hl (by rw [hrec]; simp)).trans (congrArg (fun x => Result.ok x _) (show (rec .done (some c)).pending = some c by rw [hrec])), ?_⟩
        exact (hstop w.heap.size c _ (Nat.le_refl _) ((World.putObj_heap_other (by omega)).trans hk) (hIx _ _ _ hi hc)).run hno ⟨ha.size, by simp [hnd], ha.get⟩

theorem G.roundK {N : Fm} {σ : Store} {I : World → Prop} {Ix : Code → World → Prop} {W w : World} (hK : KeepO W w) (h : I w) : G N .normal (RPostK I Ix W) σ w := by
  unfold G; exact fun a ha => ⟨hK, h⟩
end Go.Eng

set_option linter.unusedSectionVars false
namespace Go.Proofs.Ytlpheckjogphmaa
open Go Go.Eng Go.Proofs Go.NatM Go.RowKit
theorem indexLong (w : World) (n k : Nat) (A : Option Addr) (l : List IV) (hs : Sm 2 ivc w.heap w.heap.size A n k l) (hn : n ≤ 1048576) (hg : ∀ y ∈ l, GI w.heap y ∧ y.m.n ≤ 1099511627776) :
    Cl Try.prog 79 #[.slice A n k, .func (.func 46) #[] #[]] w (fun e w' => ∃ r : Int, e = .returned (.int .i64 r) ∧ Ext w w' ∧ (0 ≤ r ↔ ∃ y ∈ l, big y)) := by
  have hl := hs.len
  refine enter Try.func79 rfl rfl rfl ?_
  have hF := Fr.refl w
  repeat' (first | (refine TL.isOp ?_; first | (apply TL.ev; (case hd => rfl); (case h => (first | exact ev_simple rfl | exact ev_len rfl)))) | (refine T.is ?_; first | refine T.seq ?_ | refine T.region ?_ | refine T.block ?_) | (refine G.is ?_; first | refine G.next ?_) | refine TL.nil ?_)
  refine T.loop (α := Nat) (fun i => [(0, .slice A n k), (1, .func (.func 46) #[] #[]), (6, .slice A n k), (7, .int .i64 (n : Int)), (8, .int .i64 (i : Int))]) (fun i w' => i ≤ n ∧ (∀ j y, j < i → l[j]? = some y → ¬ big y) ∧ Fr w w' [] []) (fun i => n - i) 0 (by repeat (first | exact Sub.nil _ | refine Sub.cons rfl ?_ | refine Sub.cons' rfl (int_congr (by omega)) ?_)) ⟨Nat.zero_le _, fun j y h => absurd h (Nat.not_lt_zero _), hF⟩ ?_
  clear hF
  rintro i w1 ⟨hi, hb, hF⟩
  rcases Nat.lt_or_ge i n with hin | hin
  · obtain ⟨y, hy⟩ : ∃ y, l[i]? = some y := ⟨_, List.getElem?_eq_getElem (by omega)⟩
    have gy := hg y (List.mem_of_getElem? hy)
    have hym := List.mem_of_getElem? hy
    rcases hs.mem with h0 | ⟨bA, oA, rfl, _⟩
    · exact absurd h0 (by omega)
    obtain ⟨ys, ⟨yA, yn, yc, yl⟩⟩ := y
    by_cases hbig : big ⟨ys, ⟨yA, yn, yc, yl⟩⟩
    · have hlong := fun w1 (hE : Ext w w1) => long_ok w1 ⟨ys, ⟨yA, yn, yc, yl⟩⟩ (gy.1.ext hE) gy.2 true ⟨fun _ => hbig, fun _ => rfl⟩
      repeat' (first | (refine TL.isOp ?_; first | (refine TL.isBin ?_; refine TL.cmpG rfl rfl rfl rfl (fun hc => ?_) (fun hc => ?_) <;> (try (first | (exfalso; omega) | exact absurd rfl hc))) | (apply TL.ev; (case hd => rfl); (case h => (first | exact ev_simple rfl | (apply Ev.isLoad; first | exact ev_loadM rfl (hs.ext hF.ext) hy) | exact ev_indexM rfl rfl hin (hs.ext hF.ext).some))) | (refine TL.callV (vs := [.agg (ivc ⟨ys, ⟨yA, yn, yc, yl⟩⟩).toArray]) (cap := []) inferInstance rfl rfl rfl ?_; refine (hlong _ hF.ext).mono ?_; rintro _ wf ⟨rfl, hE⟩; replace hF := hF.exts hE; clear hE; refine Back.mk ?_)) | (refine T.is ?_; first | refine T.seq ?_ | refine T.region ?_ | refine T.block ?_ | refine T.cond_t rfl ?_ | refine T.ret ?_ | refine T.skip ?_) | (refine G.is ?_; first | refine G.next ?_ | refine G.blockR ?_ | refine G.thenR ?_) | refine TL.nil ?_)
      all_goals exact G.ret1 rfl rfl ⟨_, rfl, hF.ext, ⟨fun _ => ⟨_, hym, hbig⟩, fun _ => by omega⟩⟩
    · have hlong := fun w1 (hE : Ext w w1) => long_ok w1 ⟨ys, ⟨yA, yn, yc, yl⟩⟩ (gy.1.ext hE) gy.2 false ⟨fun h => (by cases h), fun h => absurd h hbig⟩
      repeat' (first | (refine TL.isOp ?_; first | (refine TL.isBin ?_; refine TL.cmpG rfl rfl rfl rfl (fun hc => ?_) (fun hc => ?_) <;> (try (first | (exfalso; omega) | exact absurd rfl hc))) | (apply TL.ev; (case hd => rfl); (case h => (first | exact ev_simple rfl | (apply Ev.isBin; first | exact ev_arN rfl rfl rfl (by omega)) | (apply Ev.isLoad; first | exact ev_loadM rfl (hs.ext hF.ext) hy) | exact ev_indexM rfl rfl hin (hs.ext hF.ext).some))) | (refine TL.callV (vs := [.agg (ivc ⟨ys, ⟨yA, yn, yc, yl⟩⟩).toArray]) (cap := []) inferInstance rfl rfl rfl ?_; refine (hlong _ hF.ext).mono ?_; rintro _ wf ⟨rfl, hE⟩; replace hF := hF.exts hE; clear hE; refine Back.mk ?_)) | (refine T.is ?_; first | refine T.seq ?_ | refine T.region ?_ | refine T.block ?_ | refine T.cond_t rfl ?_ | refine T.cond_f rfl ?_ | refine T.skip ?_) | (refine G.is ?_; first | refine G.next ?_ | refine G.blockN ?_) | refine TL.nil ?_)
      all_goals exact G.again (i + 1) (by repeat (first | exact Sub.nil _ | refine Sub.cons rfl ?_ | refine Sub.cons' rfl (int_congr (by omega)) ?_)) ⟨hin, fun j z hj hz => by
        rcases Nat.lt_or_ge j i with h | h
        · exact hb j z h hz
        · obtain rfl : j = i := by omega
          rw [hy] at hz
          obtain rfl := Option.some.inj hz
          exact hbig, hF⟩ (by omega)
  · obtain rfl : i = n := by omega
    repeat' (first | (refine TL.isOp ?_; first | (refine TL.isBin ?_; refine TL.cmpG rfl rfl rfl rfl (fun hc => ?_) (fun hc => ?_) <;> (try (first | (exfalso; omega) | exact absurd rfl hc))) | (apply TL.ev; (case hd => rfl); (case h => (first | exact ev_simple rfl)))) | (refine T.is ?_; first | refine T.seq ?_ | refine T.region ?_ | refine T.cond_f rfl ?_ | refine T.exit ?_ | refine T.ret ?_) | (refine G.is ?_; first | refine G.next ?_ | refine G.blockE ?_ | refine G.thenE ?_) | refine TL.nil ?_)
    all_goals exact G.ret1 rfl rfl ⟨_, rfl, hF.ext, ⟨fun h => absurd h (by decide), fun ⟨y, hy, h⟩ => by
      obtain ⟨j, hj⟩ := List.mem_iff_getElem?.1 hy
      exact absurd h (hb j y (by rw [← hl]; exact (List.getElem?_eq_some_iff.1 hj).1) hj)⟩⟩
theorem containsLong (w : World) (n k : Nat) (A : Option Addr) (l : List IV) (hs : Sm 2 ivc w.heap w.heap.size A n k l) (hn : n ≤ 1048576) (hg : ∀ y ∈ l, GI w.heap y ∧ y.m.n ≤ 1099511627776) (b : Bool) (hb : b = true ↔ ∃ y ∈ l, big y) :
    Cl Try.prog 45 #[.slice A n k, .func (.func 46) #[] #[]] w (fun e w' => e = .returned (.bool b) ∧ Ext w w') := by
  refine enter Try.func45 rfl rfl rfl ?_
  have hF := Fr.refl w
  repeat' (first | (refine TL.isOp ?_; first | (refine TL.isCall ?_; refine TL.call rfl rfl ?_; first | (refine (indexLong _ n k A l hs hn hg).mono ?_; rintro _ wf ⟨r, rfl, hE, hr⟩; replace hF := hF.exts hE; clear hE; refine Back.mk ?_)) | (refine TL.isBin ?_; refine TL.cmpG rfl rfl rfl rfl (fun hc => ?_) (fun hc => ?_) <;> (try (first | (exfalso; omega) | exact absurd rfl hc))) | (apply TL.ev; (case hd => rfl); (case h => (first | exact ev_simple rfl)))) | (refine T.is ?_; first | refine T.seq ?_ | refine T.region ?_ | refine T.ret ?_) | (refine G.is ?_; first | refine G.next ?_) | refine TL.nil ?_)
  all_goals first
    | (have e : b = true := hb.2 (hr.1 (by omega)); subst e; exact G.ret1 rfl rfl ⟨rfl, hF.ext⟩)
    | (have e : b = false := by cases b with | false => rfl | true => exact absurd (hr.2 (hb.1 rfl)) (by omega)
       subst e; exact G.ret1 rfl rfl ⟨rfl, hF.ext⟩)
end Go.Proofs.Ytlpheckjogphmaa

namespace Go.Eng
open Go Go.RowKit
theorem op_in {R : Option Nat} {n : Nat} {P : Program} {ops : Array Oper} {Q : Exit → Act → World → Prop} {i : Nat} {a : Act} {w : World} {K K' : Act → World → Prop} (hno : NoOut Q) (hd : ∀ (j : Nat) (o : Oper), ops[j]? = some o → noDefer o = true) (hk : ∀ a w, K a w → K' a w)
    (h : wpOp P ops Q i K a w) : wpOpIn (wideR R) n P ops Q i K' a w := by
  unfold wpOp at h
  unfold wpOpIn
  cases ho : ops[i]? with
  | none => rw [ho] at h; exact hk _ _ h
  | some o =>
    rw [ho] at h
    dsimp only at h ⊢
    by_cases hw : Region.wanted o (yielded ops a.tmps) = true
    · rw [if_pos hw] at h ⊢
      rcases h with h | h
      · exact wp_in (hd i o ho) hk (fun _ _ _ h => h) (fun _ _ h => h) h
      · exact absurd h.2 hno.lets
    · rw [if_neg hw] at h ⊢
      exact ⟨fun _ _ => trivial, hk _ _ h⟩
theorem any_in {R : Option Nat} {n : Nat} {P : Program} {md : Region.Mode} {ops : Array Oper} {Q : Exit → Act → World → Prop} (hno : NoOut Q) (hd : ∀ (j : Nat) (o : Oper), ops[j]? = some o → noDefer o = true) : ∀ (fuel : Nat) (listed : Array Bool) (a : Act) (w : World), wpAny P md ops Q fuel listed a w → wpAnyIn (wideR R) n P md ops Q fuel listed a w
  | 0, _, _, _, h => h
  | fuel + 1, _, _, _, h => ⟨h.1, fun i hi => op_in hno hd (fun a w => any_in hno hd fuel _ a w) (h.2 i hi)⟩
section
variable {P : Program} {R : Option Nat} {N : Fm} {Q : Exit → Act → World → Prop} {σ : Store} {l : List Oper} {w : World}
theorem wpIn_region_tree {S : World → Prop} {id : Nat} {a : Act} {w : World} {l : List Oper} (f : Nat) (t : Rt) (hm : P.follows .mixedOrders = true) (hB : treeB l.toArray f t = true) (hnd : l.all noDefer = true) (hS : S (w.drewN 1))
    (h : wpTree P l.toArray (Only Q) S f t a (w.drewN 1)) : (Code.region id l.toArray true).wpIn (wideR R) 0 P Q a w := by
  simp only [treeB, Bool.and_eq_true, Nat.ble_eq] at hB
  obtain ⟨⟨hsel, hd⟩, hC⟩ := hB
  refine wpIn_mono (Q := Only Q) (wpIn_region_any hm (any_in (fun _ _ h => h.elim) (fun j o ho => ?_) _ _ _ _ (wpAny_of_F (S := S) (f := f) _ _ _ _ ?_))) ?_
  · rw [List.getElem?_toArray] at ho
    exact List.all_eq_true.1 hnd o (List.mem_of_getElem? ho)
  · exact (wpTree_both (P := P) (Q := Only Q) (S := S) (f := f) hsel (fun _ _ _ h => h.elim) t).1 _ _ _ _ ⟨by simp, fun j oj _ hl => (by rw [getD_replicate_false] at hl; cases hl)⟩ hd hC (.inr hS) h
  · intro e a w he
    cases e <;> first | exact he | exact he.elim
theorem TI.regionFI (S : World → Prop) {id : Nat} (f : Nat) (t : Rt) (hm : P.follows .mixedOrders = true) (hB : treeB l.toArray f t = true) (hnd : l.all noDefer = true) (hS : S (w.drewN 1)) (h : TF P N l Q S f t σ (w.drewN 1)) : TI P R N (.region id l.toArray true) Q σ w :=
  by
  unfold TF at h
  exact TI.mk fun _ a ha => wpIn_region_tree (S := S) f t hm hB hnd hS (h a ha)
end
section
variable {P : Program} {R : Option Nat} {N : Fm} {Q : Exit → Act → World → Prop} {σ : Store} {S : Nat → Prop} {w0 w : World} {L : List VB} {D : List DP} {l : List Oper}
/-- a drawn region, in a round or not, in which the newest fact may change -/
theorem TI.regionFd {d : DP} (hF : Fr w0 w L (d :: D) S) (id : Nat) (f : Nat) (t : Rt) (hm : P.follows .mixedOrders = true) (hB : treeB l.toArray f t = true) (hnd : l.all noDefer = true)
    (h : ∀ w1 : World, Fr w0 w1 L (d :: D) S → TF P N l Q (fun w' => Fr w0 w' L D S) f t σ w1) : TI P R N (.region id l.toArray true) Q σ w :=
  TI.regionFI _ f t hm hB hnd ((hF.weak (List.Sublist.refl _) (allT allR)).exts (ext_drewN w 1)) (h _ (hF.exts (ext_drewN w 1)))
theorem TI.regionFr (hF : Fr w0 w L D S) (id : Nat) (f : Nat) (t : Rt) (hm : P.follows .mixedOrders = true) (hB : treeB l.toArray f t = true) (hnd : l.all noDefer = true)
    (h : ∀ w1 : World, Fr w0 w1 L D S → TF P N l Q (fun w' => Fr w0 w' L D S) f t σ w1) : TI P R N (.region id l.toArray true) Q σ w :=
  TI.regionFI _ f t hm hB hnd (hF.exts (ext_drewN w 1)) (h _ (hF.exts (ext_drewN w 1)))
end
end Go.Eng
