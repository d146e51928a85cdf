/- The engine: interface values, calls of their methods; calls that write into blocks known whole. The types of this translation that stand in interface values. Layer 11: lines under work: rows of integers, each in a block of its own; the moves on them. Layer 11: steps as values, their moves, Check. Layer 11: lines of a matrix; a matrix of lines; Check. -/
import Derived.Test.YtdhmhjbmkimplaaPb8
import Derived.Test.YtdhmhjbmkimplaaPb4
set_option linter.unusedVariables false
set_option linter.unusedSimpArgs false
namespace Go.Eng
open Go Go.RowKit

/-- a method by value of a type that is no pointer -/
class UMeth (P : Program) (t : TypeId) (name : String) (f : outParam FuncId) : Prop where
  out : ∀ (v : Value) (w : World), (method (P.types.size + Made.depth) t v name).run P w = .ok (f, v) w
/-- a type that is no interface -/
class UConc (P : Program) (t : TypeId) : Prop where
  out : ∃ d, P.underlying t = some d ∧ (match d with | .interface _ => false | _ => true) = true
section
variable {P : Program} {N : Fm} {Q : Exit → Act → World → Prop} {σ : Store} {S : Nat → Prop} {w0 w : World} {L : List VB} {D : List DP} {ops : Array Oper} {d : Nat} {t : TypeId} {pos : String} {af : Array Edge} {rest : List Oper}
theorem exec_callI {ρ : Operand → Value} {f : FuncId} {x : Operand} {xs : List Operand} {tys : Array TypeId} {vs : List Value} {dd : Option Tmp} {gd : Option (Nat × Bool)} {ti : TypeId} {v : Value} {name : String} (hρ : Agree σ ρ) (hr : look σ x = some (.iface ti v)) (hx : looks σ xs = some vs) (hm : UMeth P ti name f) (hf : IsFn P f) (w : World) :
    (execOp ρ ⟨dd, .call { callee := .invoke x name, args := xs.toArray, argTypes := tys }, t, pos, af, gd⟩).run P w = .ok (.enter f (v :: vs).toArray) w := by
  have e := hρ.list xs vs hx
  have er := hρ x _ hr
  have h1 : (#[Value.iface ti v] ++ vs.toArray).extract 1 (#[Value.iface ti v] ++ vs.toArray).size = vs.toArray := by
    apply Array.ext'
    simp
  have h2 : (#[v] ++ vs.toArray) = (v :: vs).toArray := by apply Array.ext'; simp
  have h3 := run_callFunc_enter (P := P) hf (v :: vs).toArray w
  simp only [execOp, resolve, er, List.map_toArray, e, Sem.run_bind, Sem.run_pure, Result.andThen_ok, invoke]
  simp only [List.append_toArray, List.cons_append, List.nil_append]
  simp [callMethod, hm.out, h3]
/-- a method's call -/
theorem TL.callI {f : FuncId} {x : Operand} {xs : List Operand} {tys : Array TypeId} {vs : List Value} {ti : TypeId} {v : Value} {name : String} [hm : UMeth P ti name f] [hf : IsFn P f] (hr : look σ x = some (.iface ti v)) (hx : looks σ xs = some vs) (hd : Nat.blt d N.n = true)
    (k : Cl P f (v :: vs).toArray w (Back P N ops Q rest d σ)) :
    TL P N .seq ops Q (⟨some d, .call { callee := .invoke x name, args := xs.toArray, argTypes := tys }, t, pos, af, none⟩ :: rest) σ w := by
  unfold TL
  intro a ha
  refine wpList_plain rfl fun K hK => ?_
  unfold Oper.wp
  rw [exec_callI ha.agree hr hx hm hf]
  refine Calls.mono k.out ?_
  intro e w' hb
  unfold Back at hb
  obtain ⟨v, rfl, hk⟩ := hb
  unfold TL at hk
  exact hK _ _ (hk _ (ha.put hd v))
end
section
variable {P : Program} {σ : Store} {H : Array Obj} {d : Option Tmp} {t : TypeId} {pos : String} {af : Array Edge} {gd : Option (Nat × Bool)}
theorem ev_iface {x : Operand} {ty : TypeId} [hC : UConc P ty] {v : Value} (hx : look σ x = some v) : Ev P σ H ⟨d, .makeInterface ty x, t, pos, af, gd⟩ (.iface ty v) := by
  unfold Ev
  intro ρ w hρ _
  obtain ⟨dd, h1, h2⟩ := hC.out
  cases dd <;> simp_all [execOp, hρ x _ hx, Instr.makeInterface, run_underlying h1]
theorem ev_assert_t {x : Operand} {tx ty : TypeId} [hC : UConc P ty] {v : Value} (hx : look σ x = some (.iface ty v)) : Ev P σ H ⟨d, .typeAssert x tx ty true, t, pos, af, gd⟩ (.tuple #[v, .bool true]) := by
  unfold Ev
  intro ρ w hρ _
  obtain ⟨dd, h1, h2⟩ := hC.out
  cases dd <;> simp_all [execOp, hρ x _ hx, Instr.typeAssert, run_underlying h1]
theorem ev_assert_f {x : Operand} {tx ty ti : TypeId} [hC : UConc P ty] {z : Value} {sz b1 : Nat} [hS : USize P ty z sz b1] {v : Value} (hx : look σ x = some (.iface ti v)) (hne : Nat.beq ti ty = false) : Ev P σ H ⟨d, .typeAssert x tx ty true, t, pos, af, gd⟩ (.tuple #[z, .bool false]) := by
  unfold Ev
  intro ρ w hρ _
  obtain ⟨dd, h1, h2⟩ := hC.out
  obtain ⟨i, hi, hz0, _, _⟩ := hS.info
  have hne' : ¬ ti = ty := by rintro rfl; simp at hne
  cases dd <;> simp_all [execOp, hρ x _ hx, Instr.typeAssert, run_underlying h1, zeroValue, typeInfo]
end
theorem TM.is {P : Program} {N : Fm} {l : List Oper} {Q : Exit → Act → World → Prop} {r : List (Nat × Nat)} {σ : Store} {w : World} (h : TM P N l Q r σ w) : TM P N l Q r σ w := h
/-! ### Blocks written by a callee -/
section
variable {S T : Nat → Prop} {w0 w w' : World} {L L1 L2 L1' : List VB} {D : List DP}
theorem SetV.mid {pre post : List VB} {b : Nat} {t : TypeId} {cs r : List Value} : SetV (pre ++ ⟨b, t, cs⟩ :: post) b t cs r (pre ++ ⟨b, t, r⟩ :: post) := by
  induction pre with
  | nil => exact .head
  | cons x pre ih => exact .tail ih
/-- a list of blocks, of which one is set -/
theorem SetV.map {α : Type} {f : α → VB} {l : List α} {i : Nat} {x y : α} {b : Nat} {t : TypeId} {cs r : List Value} {post : List VB} (hi : l[i]? = some x) (hx : f x = ⟨b, t, cs⟩) (hy : f y = ⟨b, t, r⟩) : SetV (l.map f ++ post) b t cs r ((l.set i y).map f ++ post) := by
  obtain ⟨hlt, he⟩ := List.getElem?_eq_some_iff.1 hi
  have e1 : l = l.take i ++ x :: l.drop (i + 1) := by rw [← he, ← List.drop_eq_getElem_cons hlt, List.take_append_drop]
  have e2 : l.set i y = l.take i ++ y :: l.drop (i + 1) := by rw [List.set_eq_take_append_cons_drop, if_pos hlt]
  rw [e2]
  conv => arg 1; rw [e1]
  simp only [List.map_append, List.map_cons, List.append_assoc, List.cons_append]
  rw [hx, hy]
  exact SetV.mid
theorem InV.map {α : Type} {f : α → VB} {l : List α} {i : Nat} {x : α} {b : Nat} {t : TypeId} {cs : List Value} {post : List VB} (hi : l[i]? = some x) (hx : f x = ⟨b, t, cs⟩) : InV (l.map f ++ post) b t cs := (SetV.map (r := cs) (y := x) hi hx hx).inV
end
end Go.Eng

namespace Go.Proofs.Ytdhmhjbmkimplaa
open Go Go.Eng Go.Proofs
instance : UConc Try.prog 63 := ⟨⟨_, Try.underlying63, rfl⟩⟩
theorem meth38 (v : Value) (w : World) : (method (Try.prog.types.size + Made.depth) 63 v "trellis/steps.matrix").run Try.prog w = .ok (38, v) w := by kernel_rfl
instance : UMeth Try.prog 63 "trellis/steps.matrix" 38 := ⟨meth38⟩
instance : UConc Try.prog 97 := ⟨⟨_, Try.underlying97, rfl⟩⟩
theorem meth127 (v : Value) (w : World) : (method (Try.prog.types.size + Made.depth) 97 v "trellis/steps.fits").run Try.prog w = .ok (127, v) w := by kernel_rfl
instance : UMeth Try.prog 97 "trellis/steps.fits" 127 := ⟨meth127⟩
theorem meth128 (v : Value) (w : World) : (method (Try.prog.types.size + Made.depth) 97 v "trellis/steps.on").run Try.prog w = .ok (128, v) w := by kernel_rfl
instance : UMeth Try.prog 97 "trellis/steps.on" 128 := ⟨meth128⟩
theorem meth129 (v : Value) (w : World) : (method (Try.prog.types.size + Made.depth) 97 v "trellis/steps.step").run Try.prog w = .ok (129, v) w := by kernel_rfl
instance : UMeth Try.prog 97 "trellis/steps.step" 129 := ⟨meth129⟩
instance : UConc Try.prog 108 := ⟨⟨_, Try.underlying108, rfl⟩⟩
theorem meth131 (v : Value) (w : World) : (method (Try.prog.types.size + Made.depth) 108 v "trellis/steps.fits").run Try.prog w = .ok (131, v) w := by kernel_rfl
instance : UMeth Try.prog 108 "trellis/steps.fits" 131 := ⟨meth131⟩
theorem meth132 (v : Value) (w : World) : (method (Try.prog.types.size + Made.depth) 108 v "trellis/steps.on").run Try.prog w = .ok (132, v) w := by kernel_rfl
instance : UMeth Try.prog 108 "trellis/steps.on" 132 := ⟨meth132⟩
theorem meth133 (v : Value) (w : World) : (method (Try.prog.types.size + Made.depth) 108 v "trellis/steps.step").run Try.prog w = .ok (133, v) w := by kernel_rfl
instance : UMeth Try.prog 108 "trellis/steps.step" 133 := ⟨meth133⟩
instance : UConc Try.prog 110 := ⟨⟨_, Try.underlying110, rfl⟩⟩
theorem meth134 (v : Value) (w : World) : (method (Try.prog.types.size + Made.depth) 110 v "trellis/steps.fits").run Try.prog w = .ok (134, v) w := by kernel_rfl
instance : UMeth Try.prog 110 "trellis/steps.fits" 134 := ⟨meth134⟩
theorem meth135 (v : Value) (w : World) : (method (Try.prog.types.size + Made.depth) 110 v "trellis/steps.on").run Try.prog w = .ok (135, v) w := by kernel_rfl
instance : UMeth Try.prog 110 "trellis/steps.on" 135 := ⟨meth135⟩
theorem meth136 (v : Value) (w : World) : (method (Try.prog.types.size + Made.depth) 110 v "trellis/steps.step").run Try.prog w = .ok (136, v) w := by kernel_rfl
instance : UMeth Try.prog 110 "trellis/steps.step" 136 := ⟨meth136⟩
instance : UConc Try.prog 112 := ⟨⟨_, Try.underlying112, rfl⟩⟩
theorem meth137 (v : Value) (w : World) : (method (Try.prog.types.size + Made.depth) 112 v "trellis/steps.fits").run Try.prog w = .ok (137, v) w := by kernel_rfl
instance : UMeth Try.prog 112 "trellis/steps.fits" 137 := ⟨meth137⟩
theorem meth138 (v : Value) (w : World) : (method (Try.prog.types.size + Made.depth) 112 v "trellis/steps.on").run Try.prog w = .ok (138, v) w := by kernel_rfl
instance : UMeth Try.prog 112 "trellis/steps.on" 138 := ⟨meth138⟩
theorem meth139 (v : Value) (w : World) : (method (Try.prog.types.size + Made.depth) 112 v "trellis/steps.step").run Try.prog w = .ok (139, v) w := by kernel_rfl
instance : UMeth Try.prog 112 "trellis/steps.step" 139 := ⟨meth139⟩
end Go.Proofs.Ytdhmhjbmkimplaa

namespace Go.Proofs.Ytdhmhjbmkimplaa
open Go Go.Eng Go.Proofs Go.NatM Go.RowKit

/-- a row in a block of its own -/
structure RB where
  b : Nat
  l : List IV
instance : Inhabited RB := ⟨⟨0, []⟩⟩
def rowv (c : Nat) (x : RB) : Value := .slice (some ⟨x.b, 0, none⟩) c c
def rowVB (x : RB) : VB := ⟨x.b, 40, x.l.flatMap ivc⟩
/-- the blocks of lines -/
def lns (g c : Nat) (R : List RB) (post : List VB) : List VB := ⟨g, 22, R.flatMap (fun x => [rowv c x])⟩ :: (R.map rowVB ++ post)
/-- the numbers of lines -/
def LsR (n c : Nat) (R : List RB) (F : Nat → Nat → Int) (K : Nat) (H : Array Obj) : Prop := ∀ i, i < n → LsK c (R.getD i default).l (F i) K H
def dpLn (n c : Nat) (R : List RB) (F : Nat → Nat → Int) (K : Nat) : DP := ⟨LsR n c R F K, fun _ => False, fun _ _ _ h => h.elim, fun _ _ hd h i hi q hq => ⟨(h i hi q hq).1.de hd, (h i hi q hq).2⟩⟩
/-- rows of one length -/
structure Rws (n c : Nat) (R : List RB) : Prop where
  n : R.length = n
  c : ∀ x ∈ R, x.l.length = c
theorem Rws.at {n c i : Nat} {R : List RB} (h : Rws n c R) (hi : i < n) : ∃ x, R[i]? = some x ∧ x.l.length = c ∧ R.getD i default = x := by
  have hl : i < R.length := by rw [h.n]; exact hi
  exact ⟨R[i], List.getElem?_eq_getElem hl, h.c _ (List.getElem_mem hl), by simp [List.getD, hl]⟩
theorem Rws.set {n c i : Nat} {R : List RB} {x : RB} (h : Rws n c R) (hx : x.l.length = c) : Rws n c (R.set i x) :=
  ⟨by rw [List.length_set]; exact h.n, fun y hy => by
    rcases List.mem_or_eq_of_mem_set hy with h1 | h1
    · exact h.c y h1
    · rw [h1]; exact hx⟩
section
variable {S : Nat → Prop} {w0 w w' : World} {L : List VB} {D : List DP}
theorem Fr.addLn (h : Fr w0 w L D S) {n c : Nat} {R : List RB} {F : Nat → Nat → Int} {K : Nat} (k : LsR n c R F K w.heap) : Fr w0 w L (dpLn n c R F K :: D) S := h.add _ k fun _ _ h => h
theorem Fr.ln (h : Fr w0 w L D S) {n c : Nat} {R : List RB} {F : Nat → Nat → Int} {K : Nat} (hm : dpLn n c R F K ∈ D) : LsR n c R F K w.heap := h.data _ hm
end
attribute [irreducible] dpLn

theorem LsK.setAt {H : Array Obj} {c : Nat} {l : List IV} {Z Z' : Nat → Int} {q K : Nat} {u : IV} (h : LsK c l Z K H) (hq : q < l.length) (hu : LI H (Z' q) u) (hn : u.m.n ≤ K) (e : ∀ p, p ≠ q → Z' p = Z p) : LsK c (l.set q u) Z' K H := by
  intro p hp
  by_cases hpq : p = q
  · subst hpq
    have e1 : (l.set p u).getD p default = u := by simp [List.getD, hq]
    rw [e1]; exact ⟨hu, hn⟩
  · have e1 : (l.set q u).getD p default = l.getD p default := by simp [List.getD, List.getElem?_set_ne (fun h => hpq h.symm)]
    rw [e1, e p hpq]; exact h p hp
theorem LsK.mono {H : Array Obj} {c K K' : Nat} {l : List IV} {Z : Nat → Int} (h : LsK c l Z K H) (hK : K ≤ K') : LsK c l Z K' H := fun q hq => ⟨(h q hq).1, Nat.le_trans (h q hq).2 hK⟩
theorem LsK.congr {H : Array Obj} {c K : Nat} {l : List IV} {Z Z' : Nat → Int} (h : LsK c l Z K H) (e : ∀ q, q < c → Z q = Z' q) : LsK c l Z' K H := fun q hq => by rw [← e q hq]; exact h q hq
theorem LsR.set {H : Array Obj} {n c K i : Nat} {R : List RB} {F F' : Nat → Nat → Int} {x : RB} (h : LsR n c R F K H) (hi : i < R.length) (hx : LsK c x.l (F' i) K H) (e : ∀ p, p ≠ i → F' p = F p) : LsR n c (R.set i x) F' K H := by
  intro p hp
  by_cases hpi : p = i
  · subst hpi
    have e1 : (R.set p x).getD p default = x := by simp [List.getD, hi]
    rw [e1]; exact hx
  · have e1 : (R.set i x).getD p default = R.getD p default := by simp [List.getD, List.getElem?_set_ne (fun h => hpi h.symm)]
    rw [e1, e p hpi]; exact h p hp
theorem LsR.mono {H : Array Obj} {n c K K' : Nat} {R : List RB} {F : Nat → Nat → Int} (h : LsR n c R F K H) (hK : K ≤ K') : LsR n c R F K' H := fun i hi => (h i hi).mono hK
section
variable {P : Program} {σ : Store} {d : Option Tmp} {t : TypeId} {pos : String} {af : Array Edge} {gd : Option (Nat × Bool)} {S : Nat → Prop} {w0 w : World} {L : List VB} {D : List DP}
theorem flat_one {α : Type} (f : α → Value) (l : List α) : l.flatMap (fun x => [f x]) = l.map f := by
  induction l with
  | nil => rfl
  | cons x l ih => rw [List.flatMap_cons, ih]; rfl
theorem ev_row (hF : Fr w0 w L D S) {x : Operand} {ty e : TypeId} [hO : UOne P ty] {g c i : Nat} {R : List RB} {r : RB} (hx : Eng.look σ x = some (.pointer (elemA (some ⟨g, 0, none⟩) i))) (hR : R[i]? = some r) (hV : InV L g e (R.flatMap (fun x => [rowv c x]))) : Ev P σ w.heap ⟨d, .load ty x, t, pos, af, gd⟩ (.slice (some ⟨r.b, 0, none⟩) c c) := by
  refine ev_loadV (b := g) (o := i) (by rw [hx]; simp [elemA, add_mk]) (hF.var hV) ?_
  rw [nthV_eq, flat_one, List.getElem?_map, hR]; rfl
theorem row_sm (hF : Fr w0 w L D S) {c : Nat} {r : RB} (hc : r.l.length = c) (hV : InV L r.b 40 (r.l.flatMap ivc)) : Sm 2 ivc w.heap w.heap.size (some ⟨r.b, 0, none⟩) c c r.l :=
  vr_sm (zs := []) (by omega) (fun _ _ => rfl) (by rw [List.append_nil]; exact hF.var hV) hc (Nat.le_refl _) (hF.var hV).lt
end
theorem InV.row {g c i : Nat} {R : List RB} {post : List VB} {x : RB} (hi : R[i]? = some x) : InV (lns g c R post) x.b 40 (x.l.flatMap ivc) := .tail (InV.map hi rfl)
theorem SetV.row {g c i q : Nat} {R : List RB} {post : List VB} {x : RB} {u : IV} (hi : R[i]? = some x) : SetV (lns g c R post) x.b 40 (x.l.flatMap ivc) ((x.l.set q u).flatMap ivc) (lns g c (R.set i ⟨x.b, x.l.set q u⟩) post) := by
  have h1 : (R.set i ⟨x.b, x.l.set q u⟩).flatMap (fun y => [rowv c y]) = R.flatMap (fun y => [rowv c y]) := by
    rw [flat_one, flat_one, List.map_set]
    apply List.ext_getElem?
    intro p
    rw [List.getElem?_set]
    split
    · rename_i hp
      subst hp
      split
      · rw [List.getElem?_map, hi]; rfl
      · rename_i hl
        rw [List.getElem?_eq_none (by simpa using hl)]
    · rfl
  unfold lns
  rw [h1]
  exact .tail (SetV.map (y := ⟨x.b, x.l.set q u⟩) hi rfl rfl)
theorem InV.head' {g c : Nat} {R : List RB} {post : List VB} : InV (lns g c R post) g 22 (R.flatMap (fun x => [rowv c x])) := .head
/-- what a move leaves -/
def RetOn (w : World) (g n c : Nat) (R : List RB) (F : Nat → Nat → Int) (K : Nat) (S : Nat → Prop) (e : Ending) (w' : World) : Prop :=
  e = .returned (.tuple #[]) ∧ ∃ R', Rws n c R' ∧ (R'.map (·.b)).Perm (R.map (·.b)) ∧ Fr w w' (lns g c R' []) [dpLn n c R' F K] S
theorem rw_put {n c i : Nat} {R : List RB} {x : RB} {l : List IV} (h : Rws n c R) (hi : R[i]? = some x) (hl : l.length = c) : Rws n c (R.set i ⟨x.b, l⟩) ∧ (R.set i ⟨x.b, l⟩)[i]? = some ⟨x.b, l⟩ ∧ ((R.set i ⟨x.b, l⟩).map (·.b)) = R.map (·.b) := by
  have hlt := (List.getElem?_eq_some_iff.1 hi).1
  refine ⟨h.set hl, by rw [List.getElem?_set, if_pos rfl, if_pos hlt], ?_⟩
  rw [List.map_set]
  apply List.ext_getElem?
  intro p
  rw [List.getElem?_set]
  split
  · rename_i hp
    subst hp
    rw [if_pos (by simpa using hlt), List.getElem?_map, hi]; rfl
  · rfl
theorem getD_set_ne {α : Type} [Inhabited α] {l : List α} {i q : Nat} {x : α} (h : q ≠ i) : (l.set i x).getD q default = l.getD q default := by simp [List.getD, List.getElem?_set_ne (Ne.symm h)]
theorem rw_same {i : Nat} {R : List RB} {x : RB} (hi : R[i]? = some x) : R.set i ⟨x.b, x.l⟩ = R := by
  apply List.ext_getElem?
  intro p
  rw [List.getElem?_set]
  split
  · rename_i hp
    subst hp
    rw [hi, if_pos (List.getElem?_eq_some_iff.1 hi).1]
  · rfl
theorem LsK.congrL {H : Array Obj} {c K : Nat} {Z Z' : Nat → Int} {x y : RB} (h : LsK c x.l Z K H) (hxy : x = y) (e : ∀ q, q < c → Z' q = Z q) : LsK c y.l Z' K H := by
  subst hxy
  exact fun q hq => by rw [e q hq]; exact h q hq
theorem Fr.flip2 {S : Nat → Prop} {w0 w : World} {L : List VB} {a b : DP} (h : Fr w0 w L [a, b] S) : Fr w0 w L [b, a] S := h.weak (List.Sublist.refl _) (allH (by repeat (first | exact memH | apply memT)) (allH (by repeat (first | exact memH | apply memT)) allN))
theorem zneg_ok (w : World) (x : IV) (gx : GI w.heap x) (hx : x.m.n ≤ 8796093022000) : Cl Try.prog 59 #[.agg (ivc x).toArray] w (RetZ w (- ival x) x.m.n) := by
  have hs := gx.s
  have hu := gx.u
  obtain ⟨neg, ⟨A, n, c, l⟩⟩ := x
  have hn : n ≤ 35184372088832 := by dsimp only at hx; omega
  have e : - ival ⟨neg, ⟨A, n, c, l⟩⟩ = sgn (!neg) (val l) := by unfold ival sgn; cases neg <;> simp
  rw [e]
  dsimp only at hs hu
  cases neg
  · refine enter Try.func59 rfl rfl rfl ?_
    have hF := Fr.refl w
    repeat' (first | (refine TL.isOp ?_; first | (refine TL.isCall ?_; refine TL.call rfl rfl ?_; first | (refine (least_ok _ _ _ _ _ _ (hs.ext hF.ext) hu hn).mono ?_; rintro _ wl ⟨Al, nl, cl, rfl, hOl, hEl, hKl⟩; have hSl := hOl.sl (Nat.le_refl _); replace hF := Fr.addSl (hF.exts hEl) hSl; clear hOl hEl; refine Back.mk ?_) | (refine (of_ok _ _ _ _ _ _ (Fr.sl hF (by repeat (first | exact memH | apply memT)))).mono ?_; rintro _ wo ⟨rfl, hLo, hEo⟩; replace hF := Fr.addLI (hF.exts hEo) hLo; clear hLo hEo; refine Back.mk ?_)) | (refine TL.storeAFr hF rfl rfl rfl rfl (by refine ⟨?_, ?_⟩; (focus (repeat (first | apply SetV.head | apply SetV.tail))); rfl) rfl ?_; clear hF; intro ws hF) | (refine TL.boxAFr hF (d := 1) (cs := [.bool false, .slice A n c]) rfl rfl ?_; clear hF; intro w1 b1 hF) | (refine TL.allocFr hF (d := 2) rfl rfl ?_; clear hF; intro w2 b2 hF)) | (refine TF.is ?_; first | refine TF.nil ?_ | refine TF.e rfl ?_ | (refine TF.pick rfl ?_; first | (apply TFo.ev; (case hd => rfl); (case h => (intro wh hF; first | exact ev_simple rfl | (apply Ev.isLoad; first | exact ev_loadFr hF rfl (by refine ⟨?_, ?_⟩; (focus (repeat (first | exact InV.head | apply InV.tail))); rfl)) | exact ev_fieldAddr rfl))))) | (refine T.is ?_; first | refine T.seq ?_ | refine T.region ?_ | refine T.ret ?_ | (refine T.regionFr hF 1 7 (.s 0 (.s 1 (.s 2 (.s 3 (.s 4 (.e 5 (.e 6 (.e 7 .nil)))))))) mixed (by kernel_rfl) ?_; clear hF; intro wr hF)) | (refine G.is ?_; first | refine G.next ?_ | refine G.only ?_ | refine G.treeEnd rfl ?_ | refine G.tree rfl (by first | exact hF | exact hF.weak (List.sublist_append_right _ _) (by repeat (first | exact allR | apply allT)) | exact hF.weak (by repeat (first | exact List.Sublist.refl _ | apply List.Sublist.cons)) (by repeat (first | exact allR | apply allT)) | exact hF.weak (by repeat (first | exact List.Sublist.refl _ | apply List.Sublist.cons)) (by repeat (first | exact allN | refine allH (by repeat (first | exact memH | apply memT)) ?_))) ?_) | refine TL.nil ?_)
    exact G.retC1 rfl rfl (held_agg (hF.var (by repeat (first | exact InV.head | apply InV.tail))) rfl) ⟨_, rfl, Fr.li hF (by repeat (first | exact memH | apply memT)), hF.ext, hKl⟩
  · refine enter Try.func59 rfl rfl rfl ?_
    have hF := Fr.refl w
    repeat' (first | (refine TL.isOp ?_; first | (refine TL.isCall ?_; refine TL.call rfl rfl ?_; first | (refine (least_ok _ _ _ _ _ _ (hs.ext hF.ext) hu hn).mono ?_; rintro _ wl ⟨Al, nl, cl, rfl, hOl, hEl, hKl⟩; have hSl := hOl.sl (Nat.le_refl _); replace hF := Fr.addSl (hF.exts hEl) hSl; clear hOl hEl; refine Back.mk ?_) | (refine (of_ok _ _ _ _ _ _ (Fr.sl hF (by repeat (first | exact memH | apply memT)))).mono ?_; rintro _ wo ⟨rfl, hLo, hEo⟩; replace hF := Fr.addLI (hF.exts hEo) hLo; clear hLo hEo; refine Back.mk ?_)) | (refine TL.storeAFr hF rfl rfl rfl rfl (by refine ⟨?_, ?_⟩; (focus (repeat (first | apply SetV.head | apply SetV.tail))); rfl) rfl ?_; clear hF; intro ws hF) | (refine TL.boxAFr hF (d := 1) (cs := [.bool true, .slice A n c]) rfl rfl ?_; clear hF; intro w1 b1 hF) | (refine TL.allocFr hF (d := 2) rfl rfl ?_; clear hF; intro w2 b2 hF)) | (refine TF.is ?_; first | refine TF.nil ?_ | refine TF.e rfl ?_ | (refine TF.pick rfl ?_; first | (apply TFo.ev; (case hd => rfl); (case h => (intro wh hF; first | exact ev_simple rfl | (apply Ev.isLoad; first | exact ev_loadFr hF rfl (by refine ⟨?_, ?_⟩; (focus (repeat (first | exact InV.head | apply InV.tail))); rfl)) | exact ev_fieldAddr rfl))))) | (refine T.is ?_; first | refine T.seq ?_ | refine T.region ?_ | refine T.ret ?_ | (refine T.regionFr hF 1 7 (.s 0 (.s 1 (.s 2 (.s 3 (.s 4 (.e 5 (.e 6 (.e 7 .nil)))))))) mixed (by kernel_rfl) ?_; clear hF; intro wr hF)) | (refine G.is ?_; first | refine G.next ?_ | refine G.only ?_ | refine G.treeEnd rfl ?_ | refine G.tree rfl (by first | exact hF | exact hF.weak (List.sublist_append_right _ _) (by repeat (first | exact allR | apply allT)) | exact hF.weak (by repeat (first | exact List.Sublist.refl _ | apply List.Sublist.cons)) (by repeat (first | exact allR | apply allT)) | exact hF.weak (by repeat (first | exact List.Sublist.refl _ | apply List.Sublist.cons)) (by repeat (first | exact allN | refine allH (by repeat (first | exact memH | apply memT)) ?_))) ?_) | refine TL.nil ?_)
    exact G.retC1 rfl rfl (held_agg (hF.var (by repeat (first | exact InV.head | apply InV.tail))) rfl) ⟨_, rfl, Fr.li hF (by repeat (first | exact memH | apply memT)), hF.ext, hKl⟩
set_option maxRecDepth 100000 in
set_option maxHeartbeats 8000000 in
theorem neg_on (w : World) (g n c i K : Nat) (R : List RB) (F : Nat → Nat → Int) (S : Nat → Prop) (hR : Rws n c R) (hi : i < n) (hc : c ≤ 64) (hK : K ≤ 8796093022000) (hF : Fr w w (lns g c R []) [dpLn n c R F K] S) :
    Cl Try.prog 135 #[.agg #[.int .i64 (i : Int)], .slice (some ⟨g, 0, none⟩) n n] w (RetOn w g n c R (fun p q => if p = i then - F i q else F p q) K S) := by
  obtain ⟨x, hx, hxl, hxd⟩ := hR.at hi
  refine enter Try.func135 rfl rfl rfl ?_
  have hR0 := hR.n
  repeat' (first | (refine TL.isOp ?_; first | (apply TL.ev; (case hd => rfl); (case h => (first | exact ev_simple rfl | (apply Ev.isLoad; first | exact ev_loadFr hF rfl (by refine ⟨?_, ?_⟩; (focus (repeat (first | exact InV.head | apply InV.tail))); rfl)) | exact ev_len rfl | exact ev_fieldAddr rfl | exact ev_indexN rfl rfl hi (.inr rfl) | exact ev_row hF rfl hx (by repeat (first | exact InV.head | apply InV.tail))))) | (refine TL.boxAFr hF (d := 2) (cs := [.int .i64 (i : Int)]) rfl rfl ?_; clear hF; intro w2 b2 hF)) | (refine T.is ?_; first | refine T.seq ?_ | refine T.region ?_ | refine T.block ?_) | (refine G.is ?_; first | refine G.next ?_) | refine TL.nil ?_)
  refine T.loop (α := Nat × List IV) (fun z => [(1, .slice (some ⟨g, 0, none⟩) n n), (2, .pointer (some ⟨b2, 0, none⟩)), (10, .slice (some ⟨x.b, 0, none⟩) c c), (11, .int .i64 (c : Int)), (12, .int .i64 (z.1 : Int))])
    (fun z w' => z.1 ≤ c ∧ z.2.length = c ∧ Fr w w' (⟨b2, 110, [.int .i64 (i : Int)]⟩ :: lns g c (R.set i ⟨x.b, z.2⟩) []) [dpLn n c R F K, dpLK c z.2 (fun q => if q < z.1 then - F i q else F i q) K] S)
    (fun z => c - z.1) (0, x.l) (by repeat (first | exact Sub.nil _ | refine Sub.cons rfl ?_ | refine Sub.cons' rfl (int_congr (by omega)) ?_)) ⟨Nat.zero_le _, hxl, ?_⟩ ?_
  · rw [rw_same hx]
    exact Fr.flip2 (Fr.addLK hF ((Fr.ln hF (R := R) (F := F) (K := K) (n := n) (by repeat (first | exact memH | apply memT)) i hi).congrL (Z' := fun q => if q < 0 then - F i q else F i q) hxd fun q hq => by rw [if_neg (Nat.not_lt_zero _)]))
  · clear hF
    rintro ⟨q, zl⟩ w2 ⟨hq, hzl, hF⟩
    dsimp only at hq hzl hF ⊢
    obtain ⟨hR', hx', hb'⟩ := rw_put (l := zl) hR hx hzl
    rcases Nat.lt_or_ge q c with hqn | hqn
    · have hy : zl[q]? = some (zl.getD q default) := by simp [List.getD, show q < zl.length by omega]
      obtain ⟨y, ey⟩ : ∃ y, zl.getD q default = y := ⟨_, rfl⟩
      rw [ey] at hy
      have hky : LI w2.heap (F i q) y ∧ y.m.n ≤ K := by
        have h := (Fr.lk hF (i := c) (l := zl) (Z := fun p => if p < q then - F i p else F i p) (K := K) (by repeat (first | exact memH | apply memT))) q hqn
        rw [ey] at h
        dsimp only at h
        rwa [if_neg (Nat.lt_irrefl _)] at h
      replace hF := Fr.addLI hF hky.1
      have hkn := hky.2
      clear hky
      repeat' (first | (refine TL.isOp ?_; first | (refine TL.isCall ?_; refine TL.call rfl rfl ?_; first | (refine (zneg_ok _ y (Fr.li hF (x := y) (by repeat (first | exact memH | apply memT))).g (by omega)).mono ?_; rintro _ w1 ⟨u, rfl, hLu, hE, hKu⟩; rw [(Fr.li hF (x := y) (by repeat (first | exact memH | apply memT))).val] at hLu; replace hF := Fr.addLI (hF.exts hE) hLu; clear hE hLu; refine Back.mk ?_)) | (refine TL.isBin ?_; refine TL.cmpG rfl rfl rfl rfl (fun hc => ?_) (fun hc => ?_) <;> (try (first | (exfalso; omega) | exact absurd rfl hc))) | (apply TL.ev; (case hd => rfl); (case h => (first | exact ev_simple rfl | (apply Ev.isBin; first | exact ev_arN rfl rfl rfl (by omega)) | (apply Ev.isLoad; first | exact ev_loadM rfl (row_sm (r := ⟨x.b, zl⟩) hF hzl (by repeat (first | exact InV.row hx' | apply InV.tail))) hy) | exact ev_indexM rfl rfl hqn (.inr rfl)))) | (refine TL.storeAFr hF rfl rfl rfl rfl (by refine ⟨?_, ?_⟩; (focus (repeat (first | apply SetV.head | apply SetV.tail))); rfl) rfl ?_; clear hF; intro ws hF) | (refine TL.allocFr hF (d := 5) rfl rfl ?_; clear hF; intro w5 b5 hF) | (refine TL.storeAtFr hF (f := ivc) u rfl rfl rfl rfl (fun _ => rfl) (by rw [hzl]; exact hqn) (ivc_noV zl) (by repeat (first | exact SetV.row hx' | apply SetV.tail)) ?_; clear hF; intro ws hF)) | (refine TF.is ?_; first | refine TF.nil ?_ | refine TF.e rfl ?_ | (refine TF.pick rfl ?_; first | (apply TFo.ev; (case hd => rfl); (case h => (intro wh hF; first | exact ev_simple rfl | (apply Ev.isLoad; first | exact ev_loadFr hF rfl (by refine ⟨?_, ?_⟩; (focus (repeat (first | exact InV.head | apply InV.tail))); rfl) | exact ev_loadAFr hF rfl (by refine ⟨?_, ?_⟩; (focus (repeat (first | exact InV.head | apply InV.tail))); rfl)) | exact ev_fieldAddr rfl | exact ev_indexM rfl rfl hqn (.inr rfl) | exact ev_indexN rfl rfl hi (.inr rfl) | exact ev_row hF rfl hx' (by repeat (first | exact InV.head' | apply InV.tail))))))) | (refine T.is ?_; first | refine T.seq ?_ | refine T.region ?_ | refine T.block ?_ | refine T.cond_t rfl ?_ | refine T.skip ?_ | (refine T.regionFr hF 4 9 (.s 0 (.s 1 (.s 2 (.s 3 (.s 4 (.s 5 (.s 6 (.e 7 (.s 8 (.e 9 .nil)))))))))) mixed (by kernel_rfl) ?_; clear hF; intro wr hF)) | (refine G.is ?_; first | refine G.next ?_ | refine G.blockN ?_ | refine G.only ?_ | refine G.treeEnd rfl ?_ | refine G.tree rfl (by first | exact hF | exact hF.weak (List.sublist_append_right _ _) (by repeat (first | exact allR | apply allT)) | exact hF.weak (by repeat (first | exact List.Sublist.refl _ | apply List.Sublist.cons)) (by repeat (first | exact allR | apply allT)) | exact hF.weak (by repeat (first | exact List.Sublist.refl _ | apply List.Sublist.cons)) (by repeat (first | exact allN | refine allH (by repeat (first | exact memH | apply memT)) ?_))) ?_) | refine TL.nil ?_)
      have hk := (Fr.lk hF (i := c) (l := zl) (Z := fun p => if p < q then - F i p else F i p) (K := K) (by repeat (first | exact memH | apply memT))).setAt (Z' := fun p => if p < q + 1 then - F i p else F i p) (u := u) (q := q) (by omega) (by rw [if_pos (Nat.lt_succ_self _)]; exact Fr.li hF (by repeat (first | exact memH | apply memT))) (by omega) (fun p hp => by by_cases h : p < q <;> simp [h, show p < q + 1 ↔ p < q by omega])
      rw [List.set_set] at hF
      exact G.again (q + 1, zl.set q u) (by repeat (first | exact Sub.nil _ | refine Sub.cons rfl ?_ | refine Sub.cons' rfl (int_congr (by omega)) ?_)) ⟨by dsimp only; omega, by rw [List.length_set]; exact hzl, Fr.flip2 (Fr.addLK (hF.weak (D := [dpLn n c R F K]) (.cons _ (.refl _)) (allH (by repeat (first | exact memH | apply memT)) allN)) hk)⟩ (by dsimp only; omega)
    · obtain rfl : q = c := by omega
      repeat' (first | (refine TL.isOp ?_; first | (refine TL.isBin ?_; refine TL.cmpG rfl rfl rfl rfl (fun hc => ?_) (fun hc => ?_) <;> (try (first | (exfalso; omega) | exact absurd rfl hc)))) | (refine T.is ?_; first | refine T.seq ?_ | refine T.region ?_ | refine T.cond_f rfl ?_ | refine T.exit ?_) | (refine G.is ?_; first | refine G.next ?_ | refine G.blockE ?_ | refine G.thenE ?_) | refine TL.nil ?_)
      refine G.end0 rfl ⟨rfl, R.set i ⟨x.b, zl⟩, hR', by rw [hb'], ?_⟩
      have hk := (Fr.ln hF (R := R) (F := F) (K := K) (n := n) (by repeat (first | exact memH | apply memT))).set (i := i) (F' := fun p r => if p = i then - F i r else F p r) (x := ⟨x.b, zl⟩) (by omega) ((Fr.lk hF (i := q) (l := zl) (by repeat (first | exact memH | apply memT))).congr fun p hp => by simp [hp]) (fun p hp => by funext r; simp [hp])
      exact Fr.addLn (hF.weak (D := []) (.cons _ (.refl _)) allN) hk
set_option maxRecDepth 100000 in
set_option maxHeartbeats 8000000 in
theorem add_on (w : World) (g n c i j K Kk : Nat) (k : IV) (R : List RB) (F : Nat → Nat → Int) (S : Nat → Prop) (hR : Rws n c R) (hi : i < n) (hj : j < n) (hij : i ≠ j) (hc : c ≤ 64) (hK : K ≤ 4398046511104) (hkn : k.m.n ≤ Kk) (hKk : Kk ≤ 4398046511104) (hF : Fr w w (lns g c R []) [dpGI k, dpLn n c R F K] S) :
    Cl Try.prog 128 #[.agg (.int .i64 (i : Int) :: .int .i64 (j : Int) :: ivc k).toArray, .slice (some ⟨g, 0, none⟩) n n] w (RetOn w g n c R (fun p q => if p = i then ival k * F j q + F i q else F p q) (Kk + K + 1) S) := by
  obtain ⟨x, hx, hxl, hxd⟩ := hR.at hi
  obtain ⟨xj, hxj, hxjl, hxjd⟩ := hR.at hj
  obtain ⟨kn, ⟨kA, km, kc, kl⟩⟩ := k
  refine enter Try.func128 rfl rfl rfl ?_
  have hR0 := hR.n
  repeat' (first | (refine TL.isOp ?_; first | (apply TL.ev; (case hd => rfl); (case h => (first | exact ev_simple rfl | (apply Ev.isLoad; first | exact ev_loadFr hF rfl (by refine ⟨?_, ?_⟩; (focus (repeat (first | exact InV.head | apply InV.tail))); rfl)) | exact ev_len rfl | exact ev_fieldAddr rfl | exact ev_indexN rfl rfl hj (.inr rfl) | exact ev_row hF rfl hxj (by repeat (first | exact InV.head' | apply InV.tail))))) | (refine TL.boxAFr hF (d := 2) (cs := [.int .i64 (i : Int), .int .i64 (j : Int), .bool kn, .slice kA km kc]) rfl rfl ?_; clear hF; intro w2 b2 hF)) | (refine T.is ?_; first | refine T.seq ?_ | refine T.region ?_ | refine T.block ?_) | (refine G.is ?_; first | refine G.next ?_) | refine TL.nil ?_)
  refine T.loop (α := Nat × List IV) (fun z => [(1, .slice (some ⟨g, 0, none⟩) n n), (2, .pointer (some ⟨b2, 0, none⟩)), (10, .slice (some ⟨xj.b, 0, none⟩) c c), (11, .int .i64 (c : Int)), (12, .int .i64 (z.1 : Int))])
    (fun z w' => z.1 ≤ c ∧ z.2.length = c ∧ (∀ p, z.1 ≤ p → z.2.getD p default = x.l.getD p default) ∧ Fr w w' (⟨b2, 97, [.int .i64 (i : Int), .int .i64 (j : Int), .bool kn, .slice kA km kc]⟩ :: lns g c (R.set i ⟨x.b, z.2⟩) []) [dpGI ⟨kn, ⟨kA, km, kc, kl⟩⟩, dpLn n c R F K, dpLK c z.2 (fun q => if q < z.1 then ival ⟨kn, ⟨kA, km, kc, kl⟩⟩ * F j q + F i q else F i q) (Kk + K + 1)] S)
    (fun z => c - z.1) (0, x.l) (by repeat (first | exact Sub.nil _ | refine Sub.cons rfl ?_ | refine Sub.cons' rfl (int_congr (by omega)) ?_)) ⟨Nat.zero_le _, hxl, fun p _ => rfl, ?_⟩ ?_
  · rw [rw_same hx]
    have h := (Fr.ln hF (R := R) (F := F) (K := K) (n := n) (by repeat (first | exact memH | apply memT)) i hi).congrL (Z' := fun q => if q < 0 then ival ⟨kn, ⟨kA, km, kc, kl⟩⟩ * F j q + F i q else F i q) hxd fun q hq => by rw [if_neg (Nat.not_lt_zero _)]
    exact (Fr.addLK hF (h.mono (K' := Kk + K + 1) (by omega))).weak (.refl _) (allH (by repeat (first | exact memH | apply memT)) (allH (by repeat (first | exact memH | apply memT)) (allH (by repeat (first | exact memH | apply memT)) allN)))
  · clear hF
    rintro ⟨q, zl⟩ w2 ⟨hq, hzl, hzx, hF⟩
    dsimp only at hq hzl hzx hF ⊢
    obtain ⟨hR', hx', hb'⟩ := rw_put (l := zl) hR hx hzl
    have hxj' : (R.set i ⟨x.b, zl⟩)[j]? = some xj := by rw [List.getElem?_set_ne hij]; exact hxj
    rcases Nat.lt_or_ge q c with hqn | hqn
    · have hy : zl[q]? = some (zl.getD q default) := by simp [List.getD, show q < zl.length by omega]
      have hyj : xj.l[q]? = some (xj.l.getD q default) := by simp [List.getD, show q < xj.l.length by omega]
      obtain ⟨y, ey⟩ : ∃ y, zl.getD q default = y := ⟨_, rfl⟩
      obtain ⟨yj, eyj⟩ : ∃ y, xj.l.getD q default = y := ⟨_, rfl⟩
      rw [ey] at hy
      rw [eyj] at hyj
      have hky : LI w2.heap (F i q) y ∧ y.m.n ≤ K := by
        have h := (Fr.ln hF (R := R) (F := F) (K := K) (n := n) (by repeat (first | exact memH | apply memT))) i hi q hqn
        rw [hxd, ← hzx q (Nat.le_refl _), ey] at h
        exact h
      have hkyj : LI w2.heap (F j q) yj ∧ yj.m.n ≤ K := by
        have h := (Fr.ln hF (R := R) (F := F) (K := K) (n := n) (by repeat (first | exact memH | apply memT))) j hj q hqn
        rw [hxjd, eyj] at h
        exact h
      replace hF := Fr.addLI (Fr.addLI hF hky.1) hkyj.1
      have hyn := hky.2
      have hyjn := hkyj.2
      clear hky hkyj
      repeat' (first | (refine TL.isOp ?_; first | (refine TL.isCall ?_; refine TL.call rfl rfl ?_; first | (refine (zmulAdd_ok _ ⟨kn, ⟨kA, km, kc, kl⟩⟩ yj y (Fr.gi hF (by repeat (first | exact memH | apply memT))) (Fr.li hF (x := yj) (by repeat (first | exact memH | apply memT))).g (Fr.li hF (x := y) (by repeat (first | exact memH | apply memT))).g (by dsimp only at *; omega) (by omega) (by omega)).mono ?_; rintro _ w1 ⟨u, rfl, hLu, hE, hKu⟩; rw [(Fr.li hF (x := y) (by repeat (first | exact memH | apply memT))).val, (Fr.li hF (x := yj) (by repeat (first | exact memH | apply memT))).val] at hLu; replace hF := Fr.addLI (hF.exts hE) hLu; clear hE hLu; refine Back.mk ?_)) | (refine TL.isBin ?_; refine TL.cmpG rfl rfl rfl rfl (fun hc => ?_) (fun hc => ?_) <;> (try (first | (exfalso; omega) | exact absurd rfl hc))) | (apply TL.ev; (case hd => rfl); (case h => (first | exact ev_simple rfl | (apply Ev.isBin; first | exact ev_arN rfl rfl rfl (by omega)) | (apply Ev.isLoad; first | exact ev_loadM rfl (row_sm (r := xj) hF hxjl (by repeat (first | exact InV.row hxj' | apply InV.tail))) hyj) | exact ev_indexM rfl rfl hqn (.inr rfl)))) | (refine TL.storeAFr hF rfl rfl rfl rfl (by refine ⟨?_, ?_⟩; (focus (repeat (first | apply SetV.head | apply SetV.tail))); rfl) rfl ?_; clear hF; intro ws hF) | (refine TL.allocFr hF (d := 5) rfl rfl ?_; clear hF; intro w5 b5 hF) | (refine TL.storeAtFr hF (f := ivc) u rfl rfl rfl rfl (fun _ => rfl) (by rw [hzl]; exact hqn) (ivc_noV zl) (by repeat (first | exact SetV.row hx' | apply SetV.tail)) ?_; clear hF; intro ws hF)) | (refine TF.is ?_; first | refine TF.nil ?_ | refine TF.e rfl ?_ | (refine TF.pick rfl ?_; first | (apply TFo.ev; (case hd => rfl); (case h => (intro wh hF; first | exact ev_simple rfl | (apply Ev.isLoad; first | exact ev_loadFr hF rfl (by refine ⟨?_, ?_⟩; (focus (repeat (first | exact InV.head | apply InV.tail))); rfl) | exact ev_loadAFr hF rfl (by refine ⟨?_, ?_⟩; (focus (repeat (first | exact InV.head | apply InV.tail))); rfl) | exact ev_loadM rfl (row_sm (r := ⟨x.b, zl⟩) hF hzl (by repeat (first | exact InV.row hx' | apply InV.tail))) hy) | exact ev_fieldAddr rfl | exact ev_indexM rfl rfl hqn (.inr rfl) | exact ev_indexN rfl rfl hi (.inr rfl) | exact ev_row hF rfl hx' (by repeat (first | exact InV.head' | apply InV.tail))))))) | (refine T.is ?_; first | refine T.seq ?_ | refine T.region ?_ | refine T.block ?_ | refine T.cond_t rfl ?_ | refine T.skip ?_ | (refine T.regionFr hF 4 19 (.s 0 (.s 1 (.s 2 (.s 3 (.s 4 (.s 5 (.s 6 (.s 7 (.s 8 (.s 9 (.s 10 (.s 11 (.s 12 (.s 13 (.s 14 (.s 15 (.s 16 (.e 17 (.s 18 (.e 19 .nil)))))))))))))))))))) mixed (by kernel_rfl) ?_; clear hF; intro wr hF)) | (refine G.is ?_; first | refine G.next ?_ | refine G.blockN ?_ | refine G.only ?_ | refine G.treeEnd rfl ?_ | refine G.tree rfl (by first | exact hF | exact hF.weak (List.sublist_append_right _ _) (by repeat (first | exact allR | apply allT)) | exact hF.weak (by repeat (first | exact List.Sublist.refl _ | apply List.Sublist.cons)) (by repeat (first | exact allR | apply allT)) | exact hF.weak (by repeat (first | exact List.Sublist.refl _ | apply List.Sublist.cons)) (by repeat (first | exact allN | refine allH (by repeat (first | exact memH | apply memT)) ?_))) ?_) | refine TL.nil ?_)
      have hk := (Fr.lk hF (i := c) (l := zl) (Z := fun p => if p < q then ival ⟨kn, ⟨kA, km, kc, kl⟩⟩ * F j p + F i p else F i p) (K := Kk + K + 1) (by repeat (first | exact memH | apply memT))).setAt (Z' := fun p => if p < q + 1 then ival ⟨kn, ⟨kA, km, kc, kl⟩⟩ * F j p + F i p else F i p) (u := u) (q := q) (by omega) (by rw [if_pos (Nat.lt_succ_self _)]; exact Fr.li hF (by repeat (first | exact memH | apply memT))) (by dsimp only at *; omega) (fun p hp => by by_cases h : p < q <;> simp [h, show p < q + 1 ↔ p < q by omega])
      rw [List.set_set] at hF
      exact G.again (q + 1, zl.set q u) (by repeat (first | exact Sub.nil _ | refine Sub.cons rfl ?_ | refine Sub.cons' rfl (int_congr (by omega)) ?_)) ⟨by dsimp only; omega, by rw [List.length_set]; exact hzl, (fun p hp => by rw [getD_set_ne (by omega)]; exact hzx p (by omega)), (Fr.addLK hF hk).weak (.cons _ (.refl _)) (allH (by repeat (first | exact memH | apply memT)) (allH (by repeat (first | exact memH | apply memT)) (allH (by repeat (first | exact memH | apply memT)) allN)))⟩ (by dsimp only; omega)
    · obtain rfl : q = c := by omega
      repeat' (first | (refine TL.isOp ?_; first | (refine TL.isBin ?_; refine TL.cmpG rfl rfl rfl rfl (fun hc => ?_) (fun hc => ?_) <;> (try (first | (exfalso; omega) | exact absurd rfl hc)))) | (refine T.is ?_; first | refine T.seq ?_ | refine T.region ?_ | refine T.cond_f rfl ?_ | refine T.exit ?_) | (refine G.is ?_; first | refine G.next ?_ | refine G.blockE ?_ | refine G.thenE ?_) | refine TL.nil ?_)
      refine G.end0 rfl ⟨rfl, R.set i ⟨x.b, zl⟩, hR', by rw [hb'], ?_⟩
      have hk := ((Fr.ln hF (R := R) (F := F) (K := K) (n := n) (by repeat (first | exact memH | apply memT))).mono (K' := Kk + K + 1) (by omega)).set (i := i) (F' := fun p r => if p = i then ival ⟨kn, ⟨kA, km, kc, kl⟩⟩ * F j r + F i r else F p r) (x := ⟨x.b, zl⟩) (by omega) ((Fr.lk hF (i := q) (l := zl) (by repeat (first | exact memH | apply memT))).congr fun p hp => by simp [hp]) (fun p hp => by funext r; simp [hp])
      exact Fr.addLn (hF.weak (D := []) (.cons _ (.refl _)) allN) hk
theorem perm_set {α : Type} : ∀ (l : List α) (j : Nat) (a b : α), l[j]? = some b → (b :: l.set j a).Perm (a :: l)
  | [], j, a, b, h => by simp at h
  | x :: l, 0, a, b, h => by
    simp at h; subst h
    exact List.Perm.swap a x l
  | x :: l, j + 1, a, b, h => by
    rw [List.getElem?_cons_succ] at h
    rw [List.set_cons_succ]
    exact (List.Perm.swap x b _).trans (((perm_set l j a b h).cons x).trans (List.Perm.swap a x l))
theorem perm_swap {α : Type} : ∀ (l : List α) (i j : Nat) (a b : α), l[i]? = some a → l[j]? = some b → ((l.set i b).set j a).Perm l
  | [], i, j, a, b, h, _ => by simp at h
  | x :: l, 0, 0, a, b, h, h' => by simp at h h'; subst h; subst h'; simp
  | x :: l, 0, j + 1, a, b, h, h' => by
    simp at h; subst h
    rw [List.getElem?_cons_succ] at h'
    rw [List.set_cons_zero, List.set_cons_succ]
    exact perm_set l j x b h'
  | x :: l, i + 1, 0, a, b, h, h' => by
    simp at h'; subst h'
    rw [List.getElem?_cons_succ] at h
    rw [List.set_cons_succ, List.set_cons_zero]
    exact perm_set l i x a h
  | x :: l, i + 1, j + 1, a, b, h, h' => by
    rw [List.getElem?_cons_succ] at h h'
    rw [List.set_cons_succ, List.set_cons_succ]
    exact (perm_swap l i j a b h h').cons x
theorem Fr.perm {S : Nat → Prop} {w0 w : World} {L L' : List VB} {D : List DP} (h : Fr w0 w L D S) (hp : L'.Perm L) : Fr w0 w L' D S :=
  ⟨h.exs, fun v hv => h.vars v (hp.mem_iff.1 hv), (hp.pairwise_iff (fun h => Ne.symm h)).2 h.dist, h.data, fun v hv => h.apart v (hp.mem_iff.1 hv)⟩
theorem putO_one : ∀ (vs : List Value) (i : Nat) (v : Value), i < vs.length → putO vs i [v] = some (vs.set i v)
  | [], i, v, h => by simp at h
  | x :: vs, 0, v, h => by cases vs <;> simp [putO]
  | x :: vs, i + 1, v, h => by
    have := putO_one vs i v (by simpa using h)
    simp [putO, this]
theorem all_set {vs : List Value} {i : Nat} {v : Value} (h : vs.all noU64 = true) (hv : noU64 v = true) : (vs.set i v).all noU64 = true := by
  rw [List.all_eq_true]
  intro u hu
  rcases List.mem_or_eq_of_mem_set hu with h1 | h1
  · exact List.all_eq_true.1 h u h1
  · rw [h1]; exact hv
/-- a slice stored into a place of lines -/
theorem TL.storeRow {P : Program} {N : Fm} {Q : Exit → Act → World → Prop} {σ : Store} {S : Nat → Prop} {w0 w : World} {L L' : List VB} {D : List DP} {ops : Array Oper} {t : TypeId} {pos : String} {af : Array Edge} {rest : List Oper} (hF : Fr w0 w L D S) {x y : Operand} {ty e : TypeId} {z : Value} {b1 : Nat} [hS : USize P ty z 1 b1] {g i : Nat} {vs : List Value} {v : Value}
    (hx : Eng.look σ x = some (.pointer (elemA (some ⟨g, 0, none⟩) i))) (hy : Eng.look σ y = some v) (hvs : v.cells.toList = [v]) (h1 : v.oneCell' = true) (hi : i < vs.length) (hn : vs.all noU64 = true) (hL : SetV L g e vs (vs.set i v) L')
    (K : ∀ w', Fr w0 w' L' D S → TL P N .seq ops Q rest σ w') : TL P N .seq ops Q (⟨none, .store ty x y, t, pos, af, none⟩ :: rest) σ w := by
  refine TL.storeFr hF (b := g) (o := i) (by rw [hx]; simp [elemA, add_mk]) hy hvs h1 ⟨hL, ?_⟩ hn K
  exact putO_one vs i v hi
set_option maxRecDepth 100000 in
set_option maxHeartbeats 8000000 in
theorem swap_on (w : World) (g n c i j K : Nat) (R : List RB) (F : Nat → Nat → Int) (S : Nat → Prop) (hR : Rws n c R) (hi : i < n) (hj : j < n) (hF : Fr w w (lns g c R []) [dpLn n c R F K] S) :
    Cl Try.prog 132 #[.agg #[.int .i64 (i : Int), .int .i64 (j : Int)], .slice (some ⟨g, 0, none⟩) n n] w (RetOn w g n c R (fun p q => F (if p = j then i else if p = i then j else p) q) K S) := by
  obtain ⟨x, hx, hxl, hxd⟩ := hR.at hi
  obtain ⟨xj, hxj, hxjl, hxjd⟩ := hR.at hj
  have hlen : (R.flatMap (fun x => [rowv c x])).length = n := by rw [flat_one, List.length_map]; exact hR.n
  have hno : (R.flatMap (fun x => [rowv c x])).all noU64 = true := by
    rw [List.all_eq_true]
    intro v hv
    obtain ⟨y, _, hy⟩ := List.mem_flatMap.1 hv
    rw [List.mem_singleton.1 hy]; rfl
  refine enter Try.func132 rfl rfl rfl ?_
  unfold lns at hF
  repeat' (first | (refine TL.isOp ?_; first | (apply TL.ev; (case hd => rfl); (case h => (first | exact ev_row hF rfl hx (by repeat (first | exact InV.head | apply InV.tail)) | exact ev_row hF rfl hxj (by repeat (first | exact InV.head | apply InV.tail))))) | (refine TL.boxAFr hF (d := 2) (cs := [.int .i64 (i : Int), .int .i64 (j : Int)]) rfl rfl ?_; clear hF; intro w2 b2 hF) | (refine TL.storeRow hF (i := i) (vs := R.flatMap (fun x => [rowv c x])) (v := rowv c xj) rfl rfl rfl rfl (by omega) hno (by repeat (first | apply SetV.head | apply SetV.tail)) ?_; clear hF; intro ws hF) | (refine TL.storeRow hF (i := j) (vs := (R.flatMap (fun x => [rowv c x])).set i (rowv c xj)) (v := rowv c x) rfl rfl rfl rfl (by rw [List.length_set]; omega) (all_set hno rfl) (by repeat (first | apply SetV.head | apply SetV.tail)) ?_; clear hF; intro ws hF)) | (refine TF.is ?_; first | refine TF.nil ?_ | refine TF.e rfl ?_ | refine TF.alt ?_ ?_ | (refine TF.pick rfl ?_; first | (apply TFo.ev; (case hd => rfl); (case h => (intro wh hF; first | exact ev_simple rfl | (apply Ev.isLoad; first | exact ev_loadFr hF rfl (by refine ⟨?_, ?_⟩; (focus (repeat (first | exact InV.head | apply InV.tail))); rfl)) | exact ev_fieldAddr rfl | exact ev_indexN rfl rfl hi (.inr rfl) | exact ev_indexN rfl rfl hj (.inr rfl)))))) | (refine T.is ?_; first | refine T.seq ?_ | refine T.region ?_ | (refine T.regionFt hF.swap 1 19 (.s 0 (.s 1 (.s 2 (.s 3 (.s 4 (.s 5 (.s 6 (.s 7 (.s 8 (.s 9 (.s 11 (.s 12 (.s 13 (.s 14 (.alt (.e 10 (.e 15 (.s 16 (.e 17 (.s 18 (.e 19 .nil)))))) (.e 15 (.e 10 (.s 16 (.e 17 (.s 18 (.e 19 .nil))))))))))))))))))))) mixed (by kernel_rfl) ?_; clear hF; intro wr hF)) | (refine G.is ?_; first | refine G.next ?_ | refine G.only ?_ | refine G.treeEnd rfl ?_ | refine G.tree rfl (by first | exact hF | exact hF.weak (List.sublist_append_right _ _) (by repeat (first | exact allR | apply allT)) | exact hF.weak (by repeat (first | exact List.Sublist.refl _ | apply List.Sublist.cons)) (by repeat (first | exact allR | apply allT)) | exact hF.weak (by repeat (first | exact List.Sublist.refl _ | apply List.Sublist.cons)) (by repeat (first | exact allN | refine allH (by repeat (first | exact memH | apply memT)) ?_))) ?_) | refine TL.nil ?_)
  all_goals
    have hk : LsR n c ((R.set i xj).set j x) (fun p q => F (if p = j then i else if p = i then j else p) q) K ws.heap := by
      have h0 := Fr.ln hF (R := R) (F := F) (K := K) (n := n) (by repeat (first | exact memH | apply memT))
      have hli : i < R.length := by rw [hR.n]; exact hi
      have hlj : j < R.length := by rw [hR.n]; exact hj
      intro p hp
      by_cases h1 : p = j
      · subst h1
        have e1 : ((R.set i xj).set p x).getD p default = x := by simp [List.getD, hlj]
        rw [e1, ← hxd]
        simp only [if_true]
        exact h0 i hi
      · rw [getD_set_ne h1]
        by_cases h2 : p = i
        · subst h2
          have e1 : (R.set p xj).getD p default = xj := by simp [List.getD, hli]
          rw [e1, ← hxjd]
          simp only [if_neg h1, if_true]
          exact h0 j hj
        · rw [getD_set_ne h2]
          simp only [if_neg h1, if_neg h2]
          exact h0 p hp
    refine G.end0 rfl ⟨rfl, (R.set i xj).set j x, (hR.set hxjl).set hxl, (perm_swap R i j x xj hx hxj).map (·.b), ?_⟩
    have hP := (perm_swap R i j x xj hx hxj).map rowVB
    have e : ((R.set i xj).set j x).flatMap (fun x => [rowv c x]) = ((R.flatMap (fun x => [rowv c x])).set i (rowv c xj)).set j (rowv c x) := by rw [flat_one, flat_one, List.map_set, List.map_set]
    refine Fr.addLn (Fr.perm (hF.weak (D := []) (.cons_cons _ (.cons _ (.refl _))) allN) ?_) hk
    unfold lns
    rw [e]
    exact (hP.append_right []).cons _
end Go.Proofs.Ytdhmhjbmkimplaa

namespace Go.Proofs.Ytdhmhjbmkimplaa
open Go Go.Eng Go.Proofs Go.NatM Go.RowKit

/-- a step as a value -/
structure SP where
  kind : Int
  i : Int
  j : Int
  k : IV
instance : Inhabited SP := ⟨⟨0, 0, 0, ⟨false, ⟨none, 0, 0, []⟩⟩⟩⟩
def spc (s : SP) : List Value := [.int .i64 s.kind, .int .i64 s.i, .int .i64 s.j, .bool s.k.neg, .slice s.k.m.A s.k.m.n s.k.m.c]
def fits (n : Nat) (s : SP) : Prop := (s.kind = 1 ∧ (0 ≤ s.i ∧ s.i < n) ∧ (0 ≤ s.j ∧ s.j < n)) ∨ (s.kind = 2 ∧ (0 ≤ s.i ∧ s.i < n)) ∨ (s.kind = 3 ∧ (0 ≤ s.i ∧ s.i < n) ∧ (0 ≤ s.j ∧ s.j < n) ∧ s.i ≠ s.j)
/-- the move of a step: by its kind; x: its number in least form -/
def mvv (s : SP) (x : IV) : Value := if s.kind = 1 then .iface 108 (.agg #[.int .i64 s.i, .int .i64 s.j]) else if s.kind = 2 then .iface 110 (.agg #[.int .i64 s.i]) else if s.kind = 3 then .iface 97 (.agg (.int .i64 s.i :: .int .i64 s.j :: ivc x).toArray) else .iface 112 (.agg #[])
def RetMv (w : World) (s : SP) (K : Nat) (e : Ending) (w' : World) : Prop := ∃ x : IV, e = .returned (mvv s x) ∧ (s.kind = 3 → LI w'.heap (ival s.k) x ∧ x.m.n ≤ K) ∧ Ext w w'
set_option maxRecDepth 100000 in
set_option maxHeartbeats 8000000 in
theorem read_ok (w : World) (s : SP) (K : Nat) (gk : s.kind = 3 → GI w.heap s.k ∧ s.k.m.n ≤ K) (hK : K ≤ 4398046511104) : Cl Try.prog 37 #[.agg (spc s).toArray] w (RetMv w s K) := by
  have hz := fun w1 (hE : Ext w w1) (h : s.kind = 3) => zleast_ok w1 s.k ((gk h).1.ext hE) (by have := (gk h).2; omega)
  have hn := fun h => (gk h).2
  clear gk
  obtain ⟨kd, i, j, ⟨kn, ⟨kA, km, kc, kl⟩⟩⟩ := s
  dsimp only at hz hn
  by_cases h1 : kd = 1
  · subst h1
    refine enter Try.func37 rfl rfl rfl ?_
    have hF := Fr.refl w
    repeat' (first | (refine TL.isOp ?_; first | (refine TL.isBin ?_; refine TL.cmpG rfl rfl rfl rfl (fun hc => ?_) (fun hc => ?_) <;> (try (first | (exfalso; omega) | exact absurd rfl hc))) | (apply TL.ev; (case hd => rfl); (case h => (first | exact ev_simple rfl | (apply Ev.isLoad; first | exact ev_loadFr hF rfl (by refine ⟨?_, ?_⟩; (focus (repeat (first | exact InV.head | apply InV.tail))); rfl)) | exact ev_fieldAddr rfl | exact ev_buildX rfl rfl | exact ev_iface rfl))) | (refine TL.boxAFr hF (d := 1) (cs := [.int .i64 1, .int .i64 i, .int .i64 j, .bool kn, .slice kA km kc]) rfl rfl ?_; clear hF; intro w1 b1 hF)) | (refine T.is ?_; first | refine T.seq ?_ | refine T.region ?_ | refine T.block ?_ | refine T.cond_t rfl ?_ | refine T.ret ?_) | (refine G.is ?_; first | refine G.next ?_ | refine G.blockR ?_ | refine G.thenR ?_) | refine TL.nil ?_)
    exact G.ret1 rfl rfl ⟨default, by simp [mvv], fun h => absurd h (by simp), hF.ext⟩
  by_cases h2 : kd = 2
  · subst h2
    refine enter Try.func37 rfl rfl rfl ?_
    have hF := Fr.refl w
    repeat' (first | (refine TL.isOp ?_; first | (refine TL.isBin ?_; refine TL.cmpG rfl rfl rfl rfl (fun hc => ?_) (fun hc => ?_) <;> (try (first | (exfalso; omega) | exact absurd rfl hc))) | (apply TL.ev; (case hd => rfl); (case h => (first | exact ev_simple rfl | (apply Ev.isLoad; first | exact ev_loadFr hF rfl (by refine ⟨?_, ?_⟩; (focus (repeat (first | exact InV.head | apply InV.tail))); rfl)) | exact ev_fieldAddr rfl | exact ev_buildX rfl rfl | exact ev_iface rfl))) | (refine TL.boxAFr hF (d := 1) (cs := [.int .i64 2, .int .i64 i, .int .i64 j, .bool kn, .slice kA km kc]) rfl rfl ?_; clear hF; intro w1 b1 hF)) | (refine T.is ?_; first | refine T.seq ?_ | refine T.region ?_ | refine T.block ?_ | refine T.cond_t rfl ?_ | refine T.cond_f rfl ?_ | refine T.ret ?_) | (refine G.is ?_; first | refine G.next ?_ | refine G.blockR ?_ | refine G.thenR ?_) | refine TL.nil ?_)
    exact G.ret1 rfl rfl ⟨default, by simp [mvv], fun h => absurd h (by simp), hF.ext⟩
  by_cases h3 : kd = 3
  · subst h3
    refine enter Try.func37 rfl rfl rfl ?_
    have hF := Fr.refl w
    repeat' (first | (refine TL.isOp ?_; first | (refine TL.isCall ?_; refine TL.call rfl rfl ?_; first | (refine (hz _ hF.ext rfl).mono ?_; rintro _ w1 ⟨⟨un, ⟨uA, um, uc, ul⟩⟩, rfl, hL, hE, hKu⟩; replace hF := Fr.addLI (hF.exts hE) hL; clear hE hL; refine Back.mk ?_)) | (refine TL.isBin ?_; refine TL.cmpG rfl rfl rfl rfl (fun hc => ?_) (fun hc => ?_) <;> (try (first | (exfalso; omega) | exact absurd rfl hc))) | (apply TL.ev; (case hd => rfl); (case h => (first | exact ev_simple rfl | (apply Ev.isLoad; first | exact ev_loadFr hF rfl (by refine ⟨?_, ?_⟩; (focus (repeat (first | exact InV.head | apply InV.tail))); rfl)) | exact ev_fieldAddr rfl))) | (refine TL.boxAFr hF (d := 1) (cs := [.int .i64 3, .int .i64 i, .int .i64 j, .bool kn, .slice kA km kc]) rfl rfl ?_; clear hF; intro w1 b1 hF)) | (refine TF.is ?_; first | refine TF.nil ?_ | refine TF.e rfl ?_ | (refine TF.pick rfl ?_; first | (apply TFo.ev; (case hd => rfl); (case h => (intro wh hF; first | exact ev_simple rfl | (apply Ev.isLoad; first | exact ev_loadFr hF rfl (by refine ⟨?_, ?_⟩; (focus (repeat (first | exact InV.head | apply InV.tail))); rfl) | exact ev_loadAFr hF rfl (by refine ⟨?_, ?_⟩; (focus (repeat (first | exact InV.head | apply InV.tail))); rfl)) | exact ev_fieldAddr rfl | exact ev_buildX rfl rfl | exact ev_iface rfl))))) | (refine T.is ?_; first | refine T.seq ?_ | refine T.region ?_ | refine T.block ?_ | refine T.cond_t rfl ?_ | refine T.cond_f rfl ?_ | refine T.ret ?_ | (refine T.regionFr hF 7 10 (.s 0 (.s 1 (.s 2 (.s 3 (.s 4 (.s 5 (.e 6 (.s 7 (.s 8 (.s 9 .nil)))))))))) mixed (by kernel_rfl) ?_; clear hF; intro wr hF)) | (refine G.is ?_; first | refine G.next ?_ | refine G.blockR ?_ | refine G.thenR ?_ | refine G.only ?_ | refine G.tree rfl (by first | exact hF | exact hF.weak (List.sublist_append_right _ _) (by repeat (first | exact allR | apply allT)) | exact hF.weak (by repeat (first | exact List.Sublist.refl _ | apply List.Sublist.cons)) (by repeat (first | exact allR | apply allT)) | exact hF.weak (by repeat (first | exact List.Sublist.refl _ | apply List.Sublist.cons)) (by repeat (first | exact allN | refine allH (by repeat (first | exact memH | apply memT)) ?_))) ?_) | refine TL.nil ?_)
    exact G.ret1 rfl rfl ⟨⟨un, ⟨uA, um, uc, ul⟩⟩, by simp [mvv, ivc], fun _ => ⟨Fr.li hF (by repeat (first | exact memH | apply memT)), Nat.le_trans hKu (hn rfl)⟩, hF.ext⟩
  · refine enter Try.func37 rfl rfl rfl ?_
    have hF := Fr.refl w
    repeat' (first | (refine TL.isOp ?_; first | (refine TL.isBin ?_; refine TL.cmpG rfl rfl rfl rfl (fun hc => ?_) (fun hc => ?_) <;> (try (first | (exfalso; omega) | exact absurd rfl hc))) | (apply TL.ev; (case hd => rfl); (case h => (first | exact ev_simple rfl | (apply Ev.isLoad; first | exact ev_loadFr hF rfl (by refine ⟨?_, ?_⟩; (focus (repeat (first | exact InV.head | apply InV.tail))); rfl)) | exact ev_fieldAddr rfl | exact ev_buildX rfl rfl | exact ev_iface rfl))) | (refine TL.boxAFr hF (d := 1) (cs := [.int .i64 kd, .int .i64 i, .int .i64 j, .bool kn, .slice kA km kc]) rfl rfl ?_; clear hF; intro w1 b1 hF)) | (refine T.is ?_; first | refine T.seq ?_ | refine T.region ?_ | refine T.block ?_ | refine T.cond_f rfl ?_ | refine T.ret ?_ | refine T.skip ?_) | (refine G.is ?_; first | refine G.next ?_ | refine G.blockN ?_) | refine TL.nil ?_)
    exact G.ret1 rfl rfl ⟨default, by simp [mvv, h1, h2, h3], fun h => absurd h h3, hF.ext⟩
def RetBb (w : World) (p : Prop) (e : Ending) (w' : World) : Prop := ∃ b : Bool, (b = true ↔ p) ∧ e = .returned (.bool b) ∧ Ext w w'
theorem in_ok (w : World) (i n : Int) (b : Bool) (h : decide (0 ≤ i ∧ i < n) = b) : Cl Try.prog 130 #[.int .i64 i, .int .i64 n] w (fun e w' => e = .returned (.bool b) ∧ Ext w w') := by
  subst h
  refine enter Try.func130 rfl rfl rfl ?_
  have hF := Fr.refl w
  repeat' (first | (refine TL.isOp ?_; first | (refine TL.isG ?_; first | refine TL.grun rfl rfl rfl ?_ | refine TL.gskip rfl rfl rfl rfl ?_) | (refine TL.isBin ?_; refine TL.cmpG rfl rfl rfl rfl (fun hc => ?_) (fun hc => ?_) <;> (try (first | (exfalso; omega) | exact absurd rfl hc))) | (apply TL.ev; (case hd => rfl); (case h => (first | exact ev_simple rfl)))) | (refine T.is ?_; first | refine T.seq ?_ | refine T.region ?_ | refine T.ret ?_) | (refine G.is ?_; first | refine G.next ?_) | refine TL.nil ?_)
  all_goals first | exact G.ret1 rfl rfl ⟨by rw [decide_eq_true (by omega)], hF.ext⟩ | exact G.ret1 rfl rfl ⟨by rw [decide_eq_false (by omega)], hF.ext⟩
theorem neg_fits (w : World) (i : Int) (n : Nat) : Cl Try.prog 134 #[.agg #[.int .i64 i], .int .i64 (n : Int)] w (RetBb w (0 ≤ i ∧ i < n)) := by
  by_cases h : 0 ≤ i ∧ i < (n : Int)
  · refine enter Try.func134 rfl rfl rfl ?_
    have hF := Fr.refl w
    repeat' (first | (refine TL.isOp ?_; first | (refine TL.isCall ?_; refine TL.call rfl rfl ?_; first | (refine (in_ok _ i (n : Int) true (decide_eq_true h)).mono ?_; rintro _ wc ⟨rfl, hE⟩; replace hF := hF.exts hE; clear hE; refine Back.mk ?_)) | (apply TL.ev; (case hd => rfl); (case h => (first | exact ev_simple rfl | (apply Ev.isLoad; first | exact ev_loadFr hF rfl (by refine ⟨?_, ?_⟩; (focus (repeat (first | exact InV.head | apply InV.tail))); rfl)) | exact ev_fieldAddr rfl))) | (refine TL.boxAFr hF (d := 2) (cs := [.int .i64 i]) rfl rfl ?_; clear hF; intro w2 b2 hF)) | (refine T.is ?_; first | refine T.seq ?_ | refine T.region ?_ | refine T.ret ?_) | (refine G.is ?_; first | refine G.next ?_) | refine TL.nil ?_)
    exact G.ret1 rfl rfl ⟨true, by simp [h], rfl, hF.ext⟩
  · refine enter Try.func134 rfl rfl rfl ?_
    have hF := Fr.refl w
    repeat' (first | (refine TL.isOp ?_; first | (refine TL.isCall ?_; refine TL.call rfl rfl ?_; first | (refine (in_ok _ i (n : Int) false (decide_eq_false h)).mono ?_; rintro _ wc ⟨rfl, hE⟩; replace hF := hF.exts hE; clear hE; refine Back.mk ?_)) | (apply TL.ev; (case hd => rfl); (case h => (first | exact ev_simple rfl | (apply Ev.isLoad; first | exact ev_loadFr hF rfl (by refine ⟨?_, ?_⟩; (focus (repeat (first | exact InV.head | apply InV.tail))); rfl)) | exact ev_fieldAddr rfl))) | (refine TL.boxAFr hF (d := 2) (cs := [.int .i64 i]) rfl rfl ?_; clear hF; intro w2 b2 hF)) | (refine T.is ?_; first | refine T.seq ?_ | refine T.region ?_ | refine T.ret ?_) | (refine G.is ?_; first | refine G.next ?_) | refine TL.nil ?_)
    exact G.ret1 rfl rfl ⟨false, by simp; omega, rfl, hF.ext⟩
theorem swap_fits (w : World) (i j : Int) (n : Nat) : Cl Try.prog 131 #[.agg #[.int .i64 i, .int .i64 j], .int .i64 (n : Int)] w (RetBb w ((0 ≤ i ∧ i < n) ∧ 0 ≤ j ∧ j < n)) := by
  by_cases h : 0 ≤ i ∧ i < (n : Int)
  · by_cases hj : 0 ≤ j ∧ j < (n : Int)
    · refine enter Try.func131 rfl rfl rfl ?_
      have hF := Fr.refl w
      repeat' (first | (refine TL.isOp ?_; first | (refine TL.isG ?_; first | refine TL.grun rfl rfl rfl ?_) | (refine TL.isCall ?_; refine TL.call rfl rfl ?_; first | (refine (in_ok _ i (n : Int) true (decide_eq_true h)).mono ?_; rintro _ wc ⟨rfl, hE⟩; replace hF := hF.exts hE; clear hE; refine Back.mk ?_) | (refine (in_ok _ j (n : Int) true (decide_eq_true hj)).mono ?_; rintro _ wc ⟨rfl, hE⟩; replace hF := hF.exts hE; clear hE; refine Back.mk ?_)) | (apply TL.ev; (case hd => rfl); (case h => (first | exact ev_simple rfl | (apply Ev.isLoad; first | exact ev_loadFr hF rfl (by refine ⟨?_, ?_⟩; (focus (repeat (first | exact InV.head | apply InV.tail))); rfl)) | exact ev_fieldAddr rfl))) | (refine TL.boxAFr hF (d := 2) (cs := [.int .i64 i, .int .i64 j]) rfl rfl ?_; clear hF; intro w2 b2 hF)) | (refine T.is ?_; first | refine T.seq ?_ | refine T.region ?_ | refine T.ret ?_) | (refine G.is ?_; first | refine G.next ?_) | refine TL.nil ?_)
      exact G.ret1 rfl rfl ⟨true, by simp [h, hj], rfl, hF.ext⟩
    · refine enter Try.func131 rfl rfl rfl ?_
      have hF := Fr.refl w
      repeat' (first | (refine TL.isOp ?_; first | (refine TL.isG ?_; first | refine TL.grun rfl rfl rfl ?_) | (refine TL.isCall ?_; refine TL.call rfl rfl ?_; first | (refine (in_ok _ i (n : Int) true (decide_eq_true h)).mono ?_; rintro _ wc ⟨rfl, hE⟩; replace hF := hF.exts hE; clear hE; refine Back.mk ?_) | (refine (in_ok _ j (n : Int) false (decide_eq_false hj)).mono ?_; rintro _ wc ⟨rfl, hE⟩; replace hF := hF.exts hE; clear hE; refine Back.mk ?_)) | (apply TL.ev; (case hd => rfl); (case h => (first | exact ev_simple rfl | (apply Ev.isLoad; first | exact ev_loadFr hF rfl (by refine ⟨?_, ?_⟩; (focus (repeat (first | exact InV.head | apply InV.tail))); rfl)) | exact ev_fieldAddr rfl))) | (refine TL.boxAFr hF (d := 2) (cs := [.int .i64 i, .int .i64 j]) rfl rfl ?_; clear hF; intro w2 b2 hF)) | (refine T.is ?_; first | refine T.seq ?_ | refine T.region ?_ | refine T.ret ?_) | (refine G.is ?_; first | refine G.next ?_) | refine TL.nil ?_)
      exact G.ret1 rfl rfl ⟨false, by simp; omega, rfl, hF.ext⟩
  · refine enter Try.func131 rfl rfl rfl ?_
    have hF := Fr.refl w
    repeat' (first | (refine TL.isOp ?_; first | (refine TL.isG ?_; first | refine TL.gskip rfl rfl rfl rfl ?_) | (refine TL.isCall ?_; refine TL.call rfl rfl ?_; first | (refine (in_ok _ i (n : Int) false (decide_eq_false h)).mono ?_; rintro _ wc ⟨rfl, hE⟩; replace hF := hF.exts hE; clear hE; refine Back.mk ?_)) | (apply TL.ev; (case hd => rfl); (case h => (first | exact ev_simple rfl | (apply Ev.isLoad; first | exact ev_loadFr hF rfl (by refine ⟨?_, ?_⟩; (focus (repeat (first | exact InV.head | apply InV.tail))); rfl)) | exact ev_fieldAddr rfl))) | (refine TL.boxAFr hF (d := 2) (cs := [.int .i64 i, .int .i64 j]) rfl rfl ?_; clear hF; intro w2 b2 hF)) | (refine T.is ?_; first | refine T.seq ?_ | refine T.region ?_ | refine T.ret ?_) | (refine G.is ?_; first | refine G.next ?_) | refine TL.nil ?_)
    exact G.ret1 rfl rfl ⟨false, by simp; omega, rfl, hF.ext⟩
theorem add_fits (w : World) (i j : Int) (k : IV) (n : Nat) : Cl Try.prog 127 #[.agg (.int .i64 i :: .int .i64 j :: ivc k).toArray, .int .i64 (n : Int)] w (RetBb w ((0 ≤ i ∧ i < n) ∧ (0 ≤ j ∧ j < n) ∧ i ≠ j)) := by
  obtain ⟨kn, ⟨kA, km, kc, kl⟩⟩ := k
  by_cases h : 0 ≤ i ∧ i < (n : Int)
  · by_cases hj : 0 ≤ j ∧ j < (n : Int)
    · by_cases hij : i = j
      · subst hij
        refine enter Try.func127 rfl rfl rfl ?_
        have hF := Fr.refl w
        repeat' (first | (refine TL.isOp ?_; first | (refine TL.isG ?_; first | refine TL.grun rfl rfl rfl ?_) | (refine TL.isCall ?_; refine TL.call rfl rfl ?_; first | (refine (in_ok _ i (n : Int) true (decide_eq_true h)).mono ?_; rintro _ wc ⟨rfl, hE⟩; replace hF := hF.exts hE; clear hE; refine Back.mk ?_)) | (refine TL.isBin ?_; refine TL.cmpG rfl rfl rfl rfl (fun hc => ?_) (fun hc => ?_) <;> (try (first | (exfalso; omega) | exact absurd rfl hc))) | (apply TL.ev; (case hd => rfl); (case h => (first | exact ev_simple rfl | (apply Ev.isLoad; first | exact ev_loadFr hF rfl (by refine ⟨?_, ?_⟩; (focus (repeat (first | exact InV.head | apply InV.tail))); rfl)) | exact ev_fieldAddr rfl))) | (refine TL.boxAFr hF (d := 2) (cs := [.int .i64 i, .int .i64 i, .bool kn, .slice kA km kc]) rfl rfl ?_; clear hF; intro w2 b2 hF)) | (refine T.is ?_; first | refine T.seq ?_ | refine T.region ?_ | refine T.ret ?_) | (refine G.is ?_; first | refine G.next ?_) | refine TL.nil ?_)
        exact G.ret1 rfl rfl ⟨false, by simp, rfl, hF.ext⟩
      · refine enter Try.func127 rfl rfl rfl ?_
        have hF := Fr.refl w
        repeat' (first | (refine TL.isOp ?_; first | (refine TL.isG ?_; first | refine TL.grun rfl rfl rfl ?_) | (refine TL.isCall ?_; refine TL.call rfl rfl ?_; first | (refine (in_ok _ i (n : Int) true (decide_eq_true h)).mono ?_; rintro _ wc ⟨rfl, hE⟩; replace hF := hF.exts hE; clear hE; refine Back.mk ?_) | (refine (in_ok _ j (n : Int) true (decide_eq_true hj)).mono ?_; rintro _ wc ⟨rfl, hE⟩; replace hF := hF.exts hE; clear hE; refine Back.mk ?_)) | (refine TL.isBin ?_; refine TL.cmpG rfl rfl rfl rfl (fun hc => ?_) (fun hc => ?_) <;> (try (first | (exfalso; omega) | exact absurd rfl hc))) | (apply TL.ev; (case hd => rfl); (case h => (first | exact ev_simple rfl | (apply Ev.isLoad; first | exact ev_loadFr hF rfl (by refine ⟨?_, ?_⟩; (focus (repeat (first | exact InV.head | apply InV.tail))); rfl)) | exact ev_fieldAddr rfl))) | (refine TL.boxAFr hF (d := 2) (cs := [.int .i64 i, .int .i64 j, .bool kn, .slice kA km kc]) rfl rfl ?_; clear hF; intro w2 b2 hF)) | (refine T.is ?_; first | refine T.seq ?_ | refine T.region ?_ | refine T.ret ?_) | (refine G.is ?_; first | refine G.next ?_) | refine TL.nil ?_)
        exact G.ret1 rfl rfl ⟨true, by simp [h, hj, hij], rfl, hF.ext⟩
    · refine enter Try.func127 rfl rfl rfl ?_
      have hF := Fr.refl w
      repeat' (first | (refine TL.isOp ?_; first | (refine TL.isG ?_; first | refine TL.grun rfl rfl rfl ?_ | refine TL.gskip rfl rfl rfl rfl ?_) | (refine TL.isCall ?_; refine TL.call rfl rfl ?_; first | (refine (in_ok _ i (n : Int) true (decide_eq_true h)).mono ?_; rintro _ wc ⟨rfl, hE⟩; replace hF := hF.exts hE; clear hE; refine Back.mk ?_) | (refine (in_ok _ j (n : Int) false (decide_eq_false hj)).mono ?_; rintro _ wc ⟨rfl, hE⟩; replace hF := hF.exts hE; clear hE; refine Back.mk ?_)) | (apply TL.ev; (case hd => rfl); (case h => (first | exact ev_simple rfl | (apply Ev.isLoad; first | exact ev_loadFr hF rfl (by refine ⟨?_, ?_⟩; (focus (repeat (first | exact InV.head | apply InV.tail))); rfl)) | exact ev_fieldAddr rfl))) | (refine TL.boxAFr hF (d := 2) (cs := [.int .i64 i, .int .i64 j, .bool kn, .slice kA km kc]) rfl rfl ?_; clear hF; intro w2 b2 hF)) | (refine T.is ?_; first | refine T.seq ?_ | refine T.region ?_ | refine T.ret ?_) | (refine G.is ?_; first | refine G.next ?_) | refine TL.nil ?_)
      exact G.ret1 rfl rfl ⟨false, by simp; omega, rfl, hF.ext⟩
  · refine enter Try.func127 rfl rfl rfl ?_
    have hF := Fr.refl w
    repeat' (first | (refine TL.isOp ?_; first | (refine TL.isG ?_; first | refine TL.gskip rfl rfl rfl rfl ?_) | (refine TL.isCall ?_; refine TL.call rfl rfl ?_; first | (refine (in_ok _ i (n : Int) false (decide_eq_false h)).mono ?_; rintro _ wc ⟨rfl, hE⟩; replace hF := hF.exts hE; clear hE; refine Back.mk ?_)) | (apply TL.ev; (case hd => rfl); (case h => (first | exact ev_simple rfl | (apply Ev.isLoad; first | exact ev_loadFr hF rfl (by refine ⟨?_, ?_⟩; (focus (repeat (first | exact InV.head | apply InV.tail))); rfl)) | exact ev_fieldAddr rfl))) | (refine TL.boxAFr hF (d := 2) (cs := [.int .i64 i, .int .i64 j, .bool kn, .slice kA km kc]) rfl rfl ?_; clear hF; intro w2 b2 hF)) | (refine T.is ?_; first | refine T.seq ?_ | refine T.region ?_ | refine T.ret ?_) | (refine G.is ?_; first | refine G.next ?_) | refine TL.nil ?_)
    exact G.ret1 rfl rfl ⟨false, by simp; omega, rfl, hF.ext⟩
theorem alien_fits (w : World) (n : Nat) : Cl Try.prog 137 #[.agg #[], .int .i64 (n : Int)] w (RetBb w False) := by
  refine enter Try.func137 rfl rfl rfl ?_
  have hF := Fr.refl w
  repeat' (first | (refine TL.isOp ?_; first | (apply TL.ev; (case hd => rfl); (case h => (first | exact ev_simple rfl))) | (refine TL.boxAFr hF (d := 2) (cs := []) rfl rfl ?_; clear hF; intro w2 b2 hF)) | (refine T.is ?_; first | refine T.seq ?_ | refine T.region ?_ | refine T.ret ?_) | (refine G.is ?_; first | refine G.next ?_) | refine TL.nil ?_)
  all_goals exact G.ret1 rfl rfl ⟨false, by simp, rfl, hF.ext⟩
section
variable {N : Fm} {Q : Exit → Act → World → Prop} {σ : Store} {w : World} {ops : Array Oper} {d : Nat} {t : TypeId} {pos : String} {af : Array Edge} {rest : List Oper}
/-- does a step fit? asked of its move -/
theorem TL.fitsMv {x : Operand} {xs : List Operand} {tys : Array TypeId} {s : SP} {xv : IV} {n : Nat} (hr : Eng.look σ x = some (mvv s xv)) (hx : looks σ xs = some [.int .i64 (n : Int)]) (hd : Nat.blt d N.n = true)
    (K : ∀ (b : Bool) (w' : World), (b = true ↔ fits n s) → Ext w w' → TL Try.prog N .seq ops Q rest ((d, .bool b) :: σ) w') :
    TL Try.prog N .seq ops Q (⟨some d, .call { callee := .invoke x "trellis/steps.fits", args := xs.toArray, argTypes := tys }, t, pos, af, none⟩ :: rest) σ w := by
  unfold mvv at hr
  split at hr
  · rename_i h1
    refine TL.callI hr hx hd ((swap_fits w s.i s.j n).mono ?_)
    rintro _ w' ⟨b, hb, rfl, hE⟩
    exact Back.mk (K b w' (hb.trans (by unfold fits; simp [h1])) hE)
  · rename_i h1
    split at hr
    · rename_i h2
      refine TL.callI hr hx hd ((neg_fits w s.i n).mono ?_)
      rintro _ w' ⟨b, hb, rfl, hE⟩
      exact Back.mk (K b w' (hb.trans (by unfold fits; simp [h2])) hE)
    · rename_i h2
      split at hr
      · rename_i h3
        refine TL.callI hr hx hd ((add_fits w s.i s.j xv n).mono ?_)
        rintro _ w' ⟨b, hb, rfl, hE⟩
        exact Back.mk (K b w' (hb.trans (by unfold fits; simp [h3])) hE)
      · rename_i h3
        refine TL.callI hr hx hd ((alien_fits w n).mono ?_)
        rintro _ w' ⟨b, hb, rfl, hE⟩
        exact Back.mk (K b w' (hb.trans (by unfold fits; simp [h1, h2, h3])) hE)
end
end Go.Proofs.Ytdhmhjbmkimplaa

namespace Go.Proofs.Ytdhmhjbmkimplaa
open Go Go.Eng Go.Proofs Go.NatM Go.RowKit

/-- a list of integers in a block of its own, known whole -/
def RetLV (w : World) (n : Nat) (Z : Nat → Int) (K : Nat) (e : Ending) (w' : World) : Prop := ∃ (b : Nat) (l : List IV), e = .returned (.slice (some ⟨b, 0, none⟩) n n) ∧ l.length = n ∧ Vr w'.heap b 40 (l.flatMap ivc) ∧ LsK n l Z K w'.heap ∧ Ext w w' ∧ w.heap.size ≤ b
set_option maxRecDepth 100000 in
set_option maxHeartbeats 8000000 in
theorem each_vr (w : World) (A : Option Addr) (n k : Nat) (l : List IV) (hs : Sm 2 ivc w.heap w.heap.size A n k l) (hn : n ≤ 1048576) (g : FuncId) (cap : List Value) (hg : IsFn Try.prog g) (Z : Nat → Int) (K : Nat)
    (hG : ∀ i y (w1 : World), l[i]? = some y → Ext w w1 → Cl Try.prog g ([Value.agg (ivc y).toArray] ++ cap).toArray w1 (RetZ w1 (Z i) K)) :
    Cl Try.prog 49 #[.slice A n k, .func (.func g) #[] cap.toArray] w (RetLV w n Z K) := by
  have hlen := hs.len
  refine enter Try.func49 rfl rfl rfl ?_
  have hF := Fr.refl w
  repeat' (first | (refine TL.isOp ?_; first | (apply TL.ev; (case hd => rfl); (case h => (first | exact ev_simple rfl | exact ev_len rfl))) | (refine TL.makeFr hF ivc ⟨false, ⟨none, 0, 0, []⟩⟩ (d := 10) rfl rfl rfl (Nat.le_refl _) (by omega) rfl rfl rfl ?_; clear hF; intro w10 b10 hF)) | (refine T.is ?_; first | refine T.seq ?_ | refine T.region ?_ | refine T.block ?_) | (refine G.is ?_; first | refine G.next ?_) | refine TL.nil ?_)
  refine T.loop (α := Nat × List IV) (fun x => [(1, .func (.func g) #[] cap.toArray), (5, .slice (some ⟨b10, 0, none⟩) n n), (11, .slice A n k), (12, .int .i64 (n : Int)), (13, .int .i64 (x.1 : Int))])
    (fun x w' => x.1 ≤ n ∧ x.2.length = n ∧ Fr w w' [⟨b10, 40, x.2.flatMap ivc⟩] [dpLK x.1 x.2 Z K])
    (fun x => n - x.1) (0, List.replicate n ⟨false, ⟨none, 0, 0, []⟩⟩) (by repeat (first | exact Sub.nil _ | refine Sub.cons rfl ?_ | refine Sub.cons' rfl (int_congr (by omega)) ?_)) ⟨Nat.zero_le _, List.length_replicate .., Fr.addLK hF (fun q hq => absurd hq (Nat.not_lt_zero _))⟩ ?_
  clear hF
  rintro ⟨i, zl⟩ w2 ⟨hi, hzl, hF⟩
  dsimp only at hi hzl hF ⊢
  rcases Nat.lt_or_ge i n with hin | hin
  · have hy : l[i]? = some (l.getD i default) := by simp [List.getD, show i < l.length by omega]
    obtain ⟨⟨yneg, ⟨yA, yn, yc, yl⟩⟩, ey⟩ : ∃ y, l.getD i default = y := ⟨_, rfl⟩
    rw [ey] at hy
    repeat' (first | (refine TL.isOp ?_; first | (refine TL.isBin ?_; refine TL.cmpG rfl rfl rfl rfl (fun hc => ?_) (fun hc => ?_) <;> (try (first | (exfalso; omega) | exact absurd rfl hc))) | (apply TL.ev; (case hd => rfl); (case h => (first | exact ev_simple rfl | (apply Ev.isBin; first | exact ev_arN rfl rfl rfl (by omega)) | (apply Ev.isLoad; first | exact ev_loadAFr hF rfl (by refine ⟨?_, ?_⟩; (focus (repeat (first | exact InV.head | apply InV.tail))); rfl) | exact ev_loadM rfl (hs.ext hF.ext) hy) | exact ev_indexM rfl rfl hin (hs.ext hF.ext).some | exact ev_indexM rfl rfl hin (.inr rfl)))) | (refine TL.storeAFr hF rfl rfl rfl rfl (by refine ⟨?_, ?_⟩; (focus (repeat (first | apply SetV.head | apply SetV.tail))); rfl) rfl ?_; clear hF; intro ws hF) | (refine TL.callV (vs := [.agg (ivc ⟨yneg, ⟨yA, yn, yc, yl⟩⟩).toArray]) (cap := cap) hg rfl rfl rfl ?_; refine (hG i _ _ hy hF.ext).mono ?_; rintro _ wf ⟨x, rfl, hLx, hE, hKx⟩; replace hF := Fr.addLI (hF.exts hE) hLx; clear hE hLx; refine Back.mk ?_) | (refine TL.storeAtFr hF (f := ivc) x rfl rfl rfl rfl (fun _ => rfl) (by rw [hzl]; exact hin) (ivc_noV zl) (by repeat (first | apply SetV.head | apply SetV.tail)) ?_; clear hF; intro ws hF) | (refine TL.allocFr hF rfl rfl ?_; clear hF; intro wa ba hF)) | (refine T.is ?_; first | refine T.seq ?_ | refine T.region ?_ | refine T.block ?_ | refine T.cond_t rfl ?_ | refine T.skip ?_) | (refine G.is ?_; first | refine G.next ?_ | refine G.blockN ?_) | refine TL.nil ?_)
    have hk := (Fr.lk hF (i := i) (l := zl) (by repeat (first | exact memH | apply memT))).set (by omega) (Fr.li hF (x := x) (by repeat (first | exact memH | apply memT))) hKx
    exact G.again (i + 1, zl.set i x) (by repeat (first | exact Sub.nil _ | refine Sub.cons rfl ?_ | refine Sub.cons' rfl (int_congr (by omega)) ?_)) ⟨by dsimp only; omega, by rw [List.length_set]; exact hzl, Fr.addLK (hF.weak (L := [⟨b10, 40, (zl.set i x).flatMap ivc⟩]) (D := []) (List.Sublist.cons _ (List.Sublist.refl _)) allN) hk⟩ (by dsimp only; omega)
  · obtain rfl : i = n := by omega
    repeat' (first | (refine TL.isOp ?_; first | (refine TL.isBin ?_; refine TL.cmpG rfl rfl rfl rfl (fun hc => ?_) (fun hc => ?_) <;> (try (first | (exfalso; omega) | exact absurd rfl hc))) | (apply TL.ev; (case hd => rfl); (case h => (first | exact ev_simple rfl)))) | (refine T.is ?_; first | refine T.seq ?_ | refine T.region ?_ | refine T.cond_f rfl ?_ | refine T.exit ?_ | refine T.ret ?_) | (refine G.is ?_; first | refine G.next ?_ | refine G.blockE ?_ | refine G.thenE ?_) | refine TL.nil ?_)
    refine G.ret1 rfl rfl ⟨b10, zl, rfl, hzl, hF.var .head, Fr.lk hF (by repeat (first | exact memH | apply memT)), hF.ext, ?_⟩
    rcases hF.lo .head with h | h
    · exact h
    · exact h.elim
/-- a row that a walk hands over, known whole -/
structure RwV where
  i : Nat
  b : Nat
  n : Nat
  l : List IV
def rwA (x : RwV) : List Value := [.int .i64 (x.i : Int), .slice (some ⟨x.b, 0, none⟩) x.n x.n]
set_option maxRecDepth 100000 in
set_option maxHeartbeats 8000000 in
theorem lines_iter2 (b r c K k : Nat) (A : Option Addr) (l : List IV) (F : Nat → Nat → Int) (hK : K ≤ 35184372088832) :
    Iter Try.prog 82 [.pointer (some ⟨b, 0, none⟩)] rwA r (fun W => Vr W.heap b 24 [.int .i64 (r : Int), .int .i64 (c : Int), .slice A (r * c) k] ∧ LM W.heap ⟨r, c, A, r * c, k, l⟩ r c F K)
      (fun i x Wb W => x.i = i ∧ x.n = c ∧ x.l.length = c ∧ Vr W.heap x.b 40 (x.l.flatMap ivc) ∧ LsK c x.l (F i) K W.heap ∧ Wb.heap.size ≤ x.b) := by
  intro l' J Jx W hJ hJx hIt h0 hY
  obtain ⟨hV, hL⟩ := hIt
  have hr := hL.sh.r64
  have hc64 := hL.sh.c64
  have hkk := hL.s.cap
  dsimp only at hkk
  have hm := mul64 hr hc64
  refine (enterM Try.func82 rfl rfl rfl (fun _ h => by obtain ⟨⟨v, hv⟩, _⟩ := h; cases hv) ?_).out
  have hF := Fr.refl W
  repeat' (first | (refine TL.isOp ?_; first | (apply TL.ev; (case hd => rfl); (case h => (first | exact ev_simple rfl | (apply Ev.isLoad; first | exact ev_loadV rfl (hV.ext hF.ext) rfl) | exact ev_fieldAddr rfl)))) | (refine G.is ?_; first | refine G.nextL ?_ | refine G.nextI ?_) | refine TL.nil ?_ | (refine TI.is ?_; first | refine TI.seq ?_ | refine TI.regionI ?_ | refine TI.block ?_) | (refine TLI.is ?_; first | refine TLI.nil ?_ | refine TLI.step rfl ?_))
  refine TI.loop (α := Nat) (fun i => [(0, .func (.yield l') #[] #[]), (1, .pointer (some ⟨b, 0, none⟩)), (5, .int .i64 (r : Int)), (6, .int .i64 (i : Int))])
    (fun i W' => i ≤ r ∧ J i W' ∧ Vr W'.heap b 24 [.int .i64 (r : Int), .int .i64 (c : Int), .slice A (r * c) k] ∧ LM W'.heap ⟨r, c, A, r * c, k, l⟩ r c F K) (fun i => r - i) 0 (by repeat (first | exact Sub.nil _ | refine Sub.cons rfl ?_ | refine Sub.cons' rfl (int_congr (by omega)) ?_)) ⟨Nat.zero_le _, h0, hV, hL⟩ ?_
  clear hF hV hL h0
  rintro i W1 ⟨hi, hj, hV, hL⟩
  have hF := Fr.refl W1
  rcases Nat.lt_or_ge i r with hin | hin
  · have hrow : i * c + c ≤ r * c := by have := Nat.mul_le_mul_right c (show i + 1 ≤ r from hin); rw [Nat.add_mul, Nat.one_mul] at this; exact this
    have hi1 : (i + 1) * c = i * c + c := by rw [Nat.add_mul, Nat.one_mul]
    have hsr : Sm 2 ivc W1.heap W1.heap.size (cutM 2 A k (i * c)) c (k - i * c) ((l.drop (i * c)).take c) := by
      have := hL.s.dropTake (i := i * c) (j := (i + 1) * c) (m := k) (m' := k - i * c) (by omega) (by dsimp only; omega) hkk (by omega)
      rwa [row_sub] at this
    have hgr : ∀ y ∈ (l.drop (i * c)).take c, GI W1.heap y ∧ y.m.n ≤ K := fun y hy => hL.gm.g y (List.mem_of_mem_drop (List.mem_of_mem_take hy))
    have hZ : ∀ q, q < c → ival (((l.drop (i * c)).take c).getD q default) = F i q := fun q hq => by
      have e1 : ((l.drop (i * c)).take c).getD q default = l.getD (i * c + q) default := by simp [List.getD, List.getElem?_take, hq, List.getElem?_drop]
      rw [e1]; exact (hL.g i q hin hq).1.val
    repeat' (first | (refine TL.isOp ?_; first | (refine TL.isCall ?_; refine TL.call rfl rfl ?_; first | (refine (each_vr _ _ c _ _ (hsr.ext hF.ext).size (by omega) 43 [] inferInstance _ K (least_each _ _ K (fun y hy => ⟨(hgr y hy).1.ext hF.ext, (hgr y hy).2⟩) hK)).mono ?_; rintro _ wl ⟨bl, ll, rfl, hlen, hVl, hL0, hE, hbl⟩; have hLL := hL0.congr (Z' := F i) hZ; replace hbl := Nat.le_trans hF.ext.size hbl; replace hF := hF.exts hE; clear hE hL0; refine Back.mk ?_)) | (refine TL.isBin ?_; refine TL.cmpG rfl rfl rfl rfl (fun hc => ?_) (fun hc => ?_) <;> (try (first | (exfalso; omega) | exact absurd rfl hc))) | (apply TL.ev; (case hd => rfl); (case h => (first | exact ev_simple rfl | (apply Ev.isBin; first | exact ev_arN rfl rfl rfl (by omega)) | (apply Ev.isLoad; first | exact ev_loadV rfl (hV.ext hF.ext) rfl) | exact ev_fieldAddr rfl | exact ev_rowSl rfl rfl rfl (by omega))))) | (refine G.is ?_; first | refine G.nextL ?_ | refine G.nextI ?_ | refine G.blockN ?_ | refine G.blockR ?_ | refine G.thenR ?_) | refine TL.nil ?_ | (refine TI.is ?_; first | refine TI.seq ?_ | refine TI.regionI ?_ | refine TI.block ?_ | refine TI.cond_t rfl ?_ | refine TI.cond_f rfl ?_ | refine TI.ret ?_ | refine TI.skip ?_) | (refine TLI.is ?_; first | refine TLI.nil ?_ | (refine TLI.yield rfl rfl rfl ?_; refine Eng.YieldAt.weak (hY i ⟨i, bl, c, ll⟩ W1 _ hin hj ⟨hV, hL⟩ hF.ext ⟨rfl, rfl, hlen, hVl, hLL, hbl⟩) ?_; rintro e W2 (⟨rfl, hj2, hV2, hL2⟩ | ⟨rfl, hx2⟩) <;> refine ⟨_, rfl, ?_⟩ <;> clear hF <;> have hF := Fr.refl W2) | refine TLI.step rfl ?_))
    · exact G.again (i + 1) (by repeat (first | exact Sub.nil _ | refine Sub.cons rfl ?_ | refine Sub.cons' rfl (int_congr (by omega)) ?_)) ⟨by omega, hj2, hV2, hL2⟩ (by omega)
    · exact G.retM0 rfl ⟨⟨_, rfl⟩, .inr hx2⟩
  · obtain rfl : i = r := by omega
    repeat' (first | (refine TL.isOp ?_; first | (refine TL.isBin ?_; refine TL.cmpG rfl rfl rfl rfl (fun hc => ?_) (fun hc => ?_) <;> (try (first | (exfalso; omega) | exact absurd rfl hc)))) | (refine G.is ?_; first | refine G.nextL ?_ | refine G.nextI ?_ | refine G.blockE ?_ | refine G.thenE ?_) | refine TL.nil ?_ | (refine TI.is ?_; first | refine TI.seq ?_ | refine TI.regionI ?_ | refine TI.cond_f rfl ?_ | refine TI.exit ?_) | (refine TLI.is ?_; first | refine TLI.nil ?_ | refine TLI.step rfl ?_))
    exact G.endM0 rfl ⟨⟨_, rfl⟩, .inl ⟨hj, hV, hL⟩⟩
end Go.Proofs.Ytdhmhjbmkimplaa
