/- The engine: variables in memory of their own (boxed values), by their cells. -/
import Derived.Test.YtgmhldapndhoeaaEngS
import Derived.Test.YtgmhldapndhoeaaEngH
import Derived.Laws.CopyRow
set_option linter.unusedVariables false
set_option linter.unusedSimpArgs false
namespace Go.Eng
open Go Go.RowKit

/-- block b holds just the cells cs -/
def Vr (H : Array Obj) (b : Nat) (t : TypeId) (cs : List Value) : Prop := H[b]? = some (.cells cs.toArray t (0, 0))
theorem Vr.lt {H : Array Obj} {b : Nat} {t : TypeId} {cs : List Value} (h : Vr H b t cs) : b < H.size := (Array.getElem?_eq_some_iff.1 h).1
theorem Vr.ext {w w' : World} {b : Nat} {t : TypeId} {cs : List Value} (hb : Ext w w') (h : Vr w.heap b t cs) : Vr w'.heap b t cs := (hb.block b h.lt).trans h
theorem Vr.below {w w' : World} {B b : Nat} {t : TypeId} {cs : List Value} (hb : RowKit.Below B w w') (hlt : b < B) (h : Vr w.heap b t cs) : Vr w'.heap b t cs := (hb.block b hlt).trans h
theorem Vr.undrew {w : World} {b n : Nat} {t : TypeId} {cs : List Value} (h : Vr w.heap b t cs) : Vr (w.drewN n).heap b t cs := h
theorem Vr.upd {w w' : World} {b g : Nat} {t : TypeId} {cs : List Value} (hu : Upd g w w') (hne : b ≠ g) (h : Vr w.heap b t cs) : Vr w'.heap b t cs := (hu.block b hne).trans h
theorem Vr.cell {H : Array Obj} {b : Nat} {t : TypeId} {cs : List Value} (h : Vr H b t cs) (i : Nat) : hcell H b i = cs[i]? := by
  unfold hcell; rw [h]; simp
/-- vs over cs from off on, if there is room -/
def putO : List Value → Nat → List Value → Option (List Value)
  | cs, _, [] => some cs
  | [], _, _ :: _ => none
  | c :: cs, 0, v :: vs => match putO cs 0 vs with
    | some l => some (v :: l)
    | none => none
  | c :: cs, off + 1, v :: vs => match putO cs off (v :: vs) with
    | some l => some (c :: l)
    | none => none
theorem putO_eq : ∀ (cs : List Value) (off : Nat) (vs r : List Value), putO cs off vs = some r → vs = [] ∧ r = cs ∨ off + vs.length ≤ cs.length ∧ r = cs.take off ++ vs ++ cs.drop (off + vs.length)
  | cs, off, [], r, h => by simp [putO] at h; exact .inl ⟨rfl, h.symm⟩
  | [], off, v :: vs, r, h => by simp [putO] at h
  | c :: cs, 0, v :: vs, r, h => by
    simp only [putO] at h
    cases hq : putO cs 0 vs with
    | none => rw [hq] at h; simp at h
    | some l =>
      rw [hq] at h; simp at h; subst h
      right
      rcases putO_eq cs 0 vs l hq with ⟨rfl, rfl⟩ | ⟨h1, rfl⟩
      · simp
      · simp only [List.length_cons, List.take_zero, List.nil_append, List.cons_append]
        refine ⟨by omega, ?_⟩
        rw [show 0 + (vs.length + 1) = (0 + vs.length) + 1 by omega, List.drop_succ_cons]
  | c :: cs, off + 1, v :: vs, r, h => by
    simp only [putO] at h
    cases hq : putO cs off (v :: vs) with
    | none => rw [hq] at h; simp at h
    | some l =>
      rw [hq] at h; simp at h; subst h
      right
      rcases putO_eq cs off (v :: vs) l hq with ⟨h1, _⟩ | ⟨h1, rfl⟩
      · cases h1
      · simp only [List.length_cons] at h1 ⊢
        refine ⟨by omega, ?_⟩
        rw [show off + 1 + (vs.length + 1) = (off + (vs.length + 1)) + 1 by omega, List.drop_succ_cons, List.take_succ_cons]
        rfl
section
variable {P : Program} {σ : Store} {H : Array Obj} {d : Option Tmp} {t : TypeId} {pos : String} {af : Array Edge} {gd : Option (Nat × Bool)}
/-- a variable's cell read -/
theorem ev_loadV {x : Operand} {ty e : TypeId} [hO : UOne P ty] {b o : Nat} {cs : List Value} {v : Value} (hx : look σ x = some (.pointer (some ⟨b, o, none⟩))) (hV : Vr H b e cs) (hv : nthV cs o = some v) : Ev P σ H ⟨d, .load ty x, t, pos, af, gd⟩ v :=
  ev_load hx (by rw [hV.cell, ← nthV_eq]; exact hv)
/-- a struct read out of a variable -/
theorem ev_loadVA {x : Operand} {ty e : TypeId} [hA : UAgg P ty] {z : Value} {sz b1 : Nat} [hS : USize P ty z sz b1] {b o : Nat} {cs cs' : List Value} (hx : look σ x = some (.pointer (some ⟨b, o, none⟩))) (hV : Vr H b e cs) (hv : subV cs o sz = some cs') :
    Ev P σ H ⟨d, .load ty x, t, pos, af, gd⟩ (.agg cs'.toArray) := by
  unfold Ev
  intro ρ w hρ hH
  obtain ⟨fs, hfs⟩ := hA.out
  obtain ⟨ii, hii, _, hsz, _⟩ := hS.info
  have hl : ∀ {n off : Nat} {l : List Value}, subV cs off n = some l → l.length = n := by
    intro n
    induction n with
    | zero => intro off l h; simp [subV] at h; subst h; rfl
    | succ n ih =>
      intro off l h
      simp only [subV] at h
      cases h1 : nthV cs off with
      | none => rw [h1] at h; simp at h
      | some v =>
        rw [h1] at h
        cases h2 : subV cs (off + 1) n with
        | none => rw [h2] at h; simp at h
        | some l' => rw [h2] at h; simp at h; subst h; simp [ih h2]
  have hlen := hl hv
  have e := subV_eq hv
  have hr : w.rangeAt b o cs' := fun j u hu => by
    rw [cell_of_hcell, hH, hV.cell]
    have hj := (List.getElem?_eq_some_iff.1 hu).1
    rw [← e, List.getElem?_take, if_pos (by omega), List.getElem?_drop] at hu
    exact hu
  have := run_loadAt_mid (P := P) w b o ty cs' _ hr hfs rfl (by rw [hii]; simp [hsz, hlen])
  simp [execOp, hρ x _ hx, this]
end
section
variable {P : Program} {N : Nat} {Q : Exit → Act → World → Prop} {σ : Store} {w : World} {ops : Array Oper} {d : Nat} {t : TypeId} {pos : String} {af : Array Edge} {rest : List Oper}
theorem TL.box {x : Operand} {ty : TypeId} {v : Value} (hx : look σ x = some v) (hd : Nat.blt d N = true)
    (K : ∀ w' b, b = w.heap.size → Vr w'.heap b ty v.cells.toList → Ext w w' → w'.heap.size = w.heap.size + 1 → TL P N .seq ops Q rest ((d, .pointer (some ⟨b, 0, none⟩)) :: σ) w') :
    TL P N .seq ops Q (⟨some d, .box ty x, t, pos, af, none⟩ :: rest) σ w := by
  refine TL.op (w' := w.alloc (.cells v.cells ty)) (fun ρ hρ => ?_) hd (K _ _ rfl (by unfold Vr; rw [heap_alloc]) (ext_alloc _ _) (size_alloc _ _))
  simp [execOp, hρ x _ hx, Instr.box, newVar, newRow]
theorem TL.boxA {x : Operand} {ty : TypeId} {cs : List Value} (hx : look σ x = some (.agg cs.toArray)) (hd : Nat.blt d N = true)
    (K : ∀ w' b, b = w.heap.size → Vr w'.heap b ty cs → Ext w w' → w'.heap.size = w.heap.size + 1 → TL P N .seq ops Q rest ((d, .pointer (some ⟨b, 0, none⟩)) :: σ) w') :
    TL P N .seq ops Q (⟨some d, .box ty x, t, pos, af, none⟩ :: rest) σ w := TL.box hx hd K
theorem TL.alloc {ty : TypeId} {z : Value} {sz b1 : Nat} [hS : USize P ty z sz b1] (hd : Nat.blt d N = true)
    (K : ∀ w' b, b = w.heap.size → Vr w'.heap b ty z.cells.toList → Ext w w' → w'.heap.size = w.heap.size + 1 → TL P N .seq ops Q rest ((d, .pointer (some ⟨b, 0, none⟩)) :: σ) w') :
    TL P N .seq ops Q (⟨some d, .alloc ty, t, pos, af, none⟩ :: rest) σ w := by
  obtain ⟨ii, hii, hz, hsz, _⟩ := hS.info
  refine TL.op (w' := w.alloc (.cells z.cells ty)) (fun ρ hρ => ?_) hd (K _ _ rfl (by unfold Vr; rw [heap_alloc]) (ext_alloc _ _) (size_alloc _ _))
  simp [execOp, Instr.alloc, zeroValue, typeInfo, hii, hz, newVar, newRow]
/-- cells stored into a variable -/
theorem TL.storeC {x y : Operand} {ty e : TypeId} {z : Value} {sz b1 : Nat} [hS : USize P ty z sz b1] {b o : Nat} {cs r vs : List Value} {v : Value} (hx : look σ x = some (.pointer (some ⟨b, o, none⟩))) (hy : look σ y = some v) (hvs : v.cells.toList = vs)
    (hsz : Nat.beq vs.length sz = true) (h1 : vs.all (·.oneCell') = true) (hV : Vr w.heap b e cs) (hr : putO cs o vs = some r)
    (K : ∀ w', Vr w'.heap b e r → Upd b w w' → TL P N .seq ops Q rest σ w') : TL P N .seq ops Q (⟨none, .store ty x y, t, pos, af, none⟩ :: rest) σ w := by
  obtain ⟨ii, hii, _, hsz', _⟩ := hS.info
  have hlen : vs.length = sz := Nat.eq_of_beq_eq_true hsz
  have hsize : v.cells.size = sz := by rw [← Array.length_toList, hvs, hlen]
  rcases putO_eq _ _ _ _ hr with ⟨rfl, rfl⟩ | ⟨hb, rfl⟩
  · refine TL.op0 (fun ρ hρ => ?_) (K w hV (upd_refl _ _))
    have hs0 : sz = 0 := by simpa using hlen.symm
    simp [execOp, hρ x _ hx, hρ y _ hy, Instr.storeAt, Instr.sureAddr, storeVar, sizeOf, typeInfo, hii, hsz', hsize, hvs, storeCells]
  · have hst := run_storeCells_at P b o e vs 0 cs.toArray w hV (by simpa using hb) (fun u hu => (List.all_eq_true.1 h1) u hu)
    simp only [Nat.add_zero] at hst
    refine TL.op0 (w' := w.setRow b (cs.take o ++ vs ++ cs.drop (o + vs.length)).toArray) (fun ρ hρ => ?_) (K _ ?_ (upd_setRow _ _ _))
    · simp [execOp, hρ x _ hx, hρ y _ hy, Instr.storeAt, Instr.sureAddr, storeVar, sizeOf, typeInfo, hii, hsz', hsize, hvs]
      rw [hst]
      simp
    · unfold Vr at hV ⊢
      rw [setRow_heap w b _ _ e _ hV]
/-- a value of one cell stored into a variable -/
theorem TL.storeV {x y : Operand} {ty e : TypeId} {z : Value} {b1 : Nat} [hS : USize P ty z 1 b1] {b o : Nat} {cs r : List Value} {v : Value} (hx : look σ x = some (.pointer (some ⟨b, o, none⟩))) (hy : look σ y = some v) (hvs : v.cells.toList = [v])
    (h1 : v.oneCell' = true) (hV : Vr w.heap b e cs) (hr : putO cs o [v] = some r) (K : ∀ w', Vr w'.heap b e r → Upd b w w' → TL P N .seq ops Q rest σ w') : TL P N .seq ops Q (⟨none, .store ty x y, t, pos, af, none⟩ :: rest) σ w :=
  TL.storeC hx hy hvs rfl (by simp [h1]) hV hr K
/-- a struct stored into a variable -/
theorem TL.storeVA {x y : Operand} {ty e : TypeId} {z : Value} {sz b1 : Nat} [hS : USize P ty z sz b1] {b o : Nat} {cs r vs : List Value} (hx : look σ x = some (.pointer (some ⟨b, o, none⟩))) (hy : look σ y = some (.agg vs.toArray))
    (hsz : Nat.beq vs.length sz = true) (h1 : vs.all (·.oneCell') = true) (hV : Vr w.heap b e cs) (hr : putO cs o vs = some r)
    (K : ∀ w', Vr w'.heap b e r → Upd b w w' → TL P N .seq ops Q rest σ w') : TL P N .seq ops Q (⟨none, .store ty x y, t, pos, af, none⟩ :: rest) σ w :=
  TL.storeC hx hy rfl hsz h1 hV hr K
end
end Go.Eng
