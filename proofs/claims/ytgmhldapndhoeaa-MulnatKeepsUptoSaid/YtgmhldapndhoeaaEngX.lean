/- The engine: results that lie in memory, closures, append to nothing. -/
import Derived.Test.YtgmhldapndhoeaaEngT
set_option linter.unusedVariables false
set_option linter.unusedSimpArgs false
namespace Go.Eng
open Go Go.RowKit

section
variable {P : Program} {N : Nat} {Q : Exit → Act → World → Prop} {σ : Store} {w : World} {fn : Func} {R : Ending → World → Prop}
/-- the value of a variable that lies in memory -/
def Held (P : Program) (ty : TypeId) (w : World) (b : Nat) (v : Value) : Prop := (loadVar ty ⟨b, 0, none⟩).run P w = .ok v w
theorem held_agg {ty e : TypeId} [hA : UAgg P ty] {z : Value} {sz b1 : Nat} [hS : USize P ty z sz b1] {b : Nat} {cs : List Value} (hV : Vr w.heap b e cs) (hl : Nat.beq cs.length sz = true) : Held P ty w b (.agg cs.toArray) := by
  obtain ⟨fs, hfs⟩ := hA.out
  obtain ⟨ii, hii, _, hsz, _⟩ := hS.info
  have hlen := Nat.eq_of_beq_eq_true hl
  refine run_loadVar_mid (P := P) w b 0 ty cs _ (fun j u hu => ?_) hfs rfl (by rw [hii]; simp [hsz, hlen])
  rw [Nat.zero_add, cell_of_hcell, hV.cell]
  exact hu
theorem held_one {ty e : TypeId} [hO : UOne P ty] {b : Nat} {v : Value} (hV : Vr w.heap b e [v]) : Held P ty w b v := by
  have hc : w.cell? ⟨b, 0, none⟩ = some v := by rw [cell_of_hcell, hV.cell]; rfl
  unfold Held
  simp [loadVar, run_isAgg_one hO, hc]
theorem results_c1 {r : Tmp} {ty : TypeId} (h : fn.results = #[.cell r ty]) {tmps : Array Value} {b : Nat} {v : Value} (hr : tmps.getD r undef = .pointer (some ⟨b, 0, none⟩)) (hH : Held P ty w b v) : (results fn tmps).run P w = .ok v w := by
  unfold Held at hH
  simp [results, h]
  simp only [Array.getD_eq_getD_getElem?] at hr
  simp [hr, asAddr, hH]
theorem results_c2 {r s : Tmp} {ty : TypeId} (h : fn.results = #[.cell r ty, .tmp s]) {tmps : Array Value} {b : Nat} {v : Value} (hr : tmps.getD r undef = .pointer (some ⟨b, 0, none⟩)) (hH : Held P ty w b v) : (results fn tmps).run P w = .ok (.tuple #[v, tmps.getD s undef]) w := by
  unfold Held at hH
  simp [results, h]
  simp only [Array.getD_eq_getD_getElem?] at hr
  simp [hr, asAddr, hH]
theorem results_c3 {r s q : Tmp} {ty ty' : TypeId} (h : fn.results = #[.cell r ty, .cell s ty', .tmp q]) {tmps : Array Value} {b b' : Nat} {v v' : Value} (hr : tmps.getD r undef = .pointer (some ⟨b, 0, none⟩)) (hs : tmps.getD s undef = .pointer (some ⟨b', 0, none⟩)) (hH : Held P ty w b v) (hH' : Held P ty' w b' v') :
    (results fn tmps).run P w = .ok (.tuple #[v, v', tmps.getD q undef]) w := by
  unfold Held at hH hH'
  simp [results, h]
  simp only [Array.getD_eq_getD_getElem?] at hr hs
  simp [hr, hs, asAddr, hH, hH']
theorem G.retC1 {r : Nat} {ty : TypeId} {b : Nat} {v : Value} (hr : fn.results = #[.cell r ty]) (hp : look1 σ r = some (.pointer (some ⟨b, 0, none⟩))) (hH : Held P ty w b v) (h : R (.returned v) w) : G N .ret (bodyPost P fn R) σ w := by
  unfold G
  exact fun a ha => bodyPost_ret (results_c1 hr (ha.get r _ hp) hH) ha.nodef h
theorem G.retC2 {r s : Nat} {ty : TypeId} {b : Nat} {v u : Value} (hr : fn.results = #[.cell r ty, .tmp s]) (hp : look1 σ r = some (.pointer (some ⟨b, 0, none⟩))) (hu : look1 σ s = some u) (hH : Held P ty w b v) (h : R (.returned (.tuple #[v, u])) w) : G N .ret (bodyPost P fn R) σ w := by
  unfold G
  exact fun a ha => bodyPost_ret (results_c2 hr (ha.get r _ hp) hH) ha.nodef (by rw [ha.get s u hu]; exact h)
theorem G.retC3 {r s q : Nat} {ty ty' : TypeId} {b b' : Nat} {v v' u : Value} (hr : fn.results = #[.cell r ty, .cell s ty', .tmp q]) (hp : look1 σ r = some (.pointer (some ⟨b, 0, none⟩))) (hp' : look1 σ s = some (.pointer (some ⟨b', 0, none⟩))) (hu : look1 σ q = some u)
    (hH : Held P ty w b v) (hH' : Held P ty' w b' v') (h : R (.returned (.tuple #[v, v', u])) w) : G N .ret (bodyPost P fn R) σ w := by
  unfold G
  exact fun a ha => bodyPost_ret (results_c3 hr (ha.get r _ hp) (ha.get s _ hp') hH hH') ha.nodef (by rw [ha.get q u hu]; exact h)
end
section
variable {P : Program} {σ : Store} {H : Array Obj} {d : Option Tmp} {t : TypeId} {pos : String} {af : Array Edge} {gd : Option (Nat × Bool)}
theorem ev_makeFunc {g : FuncId} {xs : List Operand} {vs : List Value} (hx : looks σ xs = some vs) : Ev P σ H ⟨d, .makeFunc (.func g) #[] xs.toArray, t, pos, af, gd⟩ (.func (.func g) #[] vs.toArray) := by
  unfold Ev
  intro ρ w hρ _
  have e := hρ.list xs vs hx
  simp [execOp, Instr.makeFunc, e]
end
section
variable {P : Program} {N : Nat} {Q : Exit → Act → World → Prop} {σ : Store} {w : World} {ops : Array Oper} {d : Nat} {t : TypeId} {pos : String} {af : Array Edge} {rest : List Oper}
theorem exec_callV {ρ : Operand → Value} {f : FuncId} {x : Operand} {xs : List Operand} {tys : Array TypeId} {vs cap : List Value} {dd : Option Tmp} {gd : Option (Nat × Bool)} (hρ : Agree σ ρ) (hf : look σ x = some (.func (.func f) #[] cap.toArray)) (hx : looks σ xs = some vs) (hfn : IsFn P f) (w : World) :
    (execOp ρ ⟨dd, .call { callee := .value x, args := xs.toArray, argTypes := tys }, t, pos, af, gd⟩).run P w = .ok (.enter f (vs ++ cap).toArray) w := by
  have e := hρ.list xs vs hx
  have ef := hρ x _ hf
  simp [execOp, resolve, ef, Deferred.ofValue, invoke, e, run_callFunc_enter hfn]
/-- a call of a function value -/
theorem TL.callV {f : FuncId} {x : Operand} {xs : List Operand} {tys : Array TypeId} {vs cap : List Value} (hfn : IsFn P f) (hf : look σ x = some (.func (.func f) #[] cap.toArray)) (hx : looks σ xs = some vs) (hd : Nat.blt d N = true)
    (k : Cl P f (vs ++ cap).toArray w (Back P N ops Q rest d σ)) :
    TL P N .seq ops Q (⟨some d, .call { callee := .value x, args := xs.toArray, argTypes := tys }, t, pos, af, none⟩ :: rest) σ w := by
  unfold TL
  intro a ha
  refine wpList_plain rfl fun K hK => ?_
  unfold Oper.wp
  rw [exec_callV ha.agree hf hx hfn]
  refine Calls.mono k.out ?_
  intro e w' hb
  unfold Back at hb
  obtain ⟨v, rfl, hk⟩ := hb
  unfold TL at hk
  exact hK _ _ (hk _ (ha.put hd v))
/-- append to a slice without room -/
theorem TL.appendE {α : Type} {f : α → Value} (h1 : ∀ u, (f u).oneCell' = true) {x y : Operand} {ty e : TypeId} [hT : USlice P ty e] {z : Value} {b1 : Nat} [hS : USize P e z 1 b1] (hzc : z.cells.size = 1) {b m c' B : Nat} {A' : Option Addr} {l' : List α}
    (hx : look σ x = some (.slice (some ⟨b, 0, none⟩) 0 0)) (hy : look σ y = some (.slice A' m c')) (hd : Nat.blt d N = true) (hs : Sl f w.heap B A' m c' l')
    (hroom : m * b1 ≤ 140737488355328 ∧ m ≤ 9223372036854775807) (hb : Bk f w.heap b e [])
    (K : ∀ w' A2 c2, Sl f w'.heap w'.heap.size A2 m c2 l' → Ext w w' → (m = 0 ∨ Ow f w'.heap w.heap.size e A2 m c2 l') → TL P N .seq ops Q rest ((d, .slice A2 m c2) :: σ) w') :
    TL P N .seq ops Q (⟨some d, .call { callee := .builtin .append, args := #[x, y], argTypes := #[ty, ty] }, t, pos, af, none⟩ :: rest) σ w := by
  obtain ⟨i, hi, hz0, hsz, hby⟩ := hS.info
  have hl' := hs.len
  have hbb : w.heap[b]? = some (.cells #[] e (0, 0)) := by unfold Bk at hb; simpa using hb
  rcases Nat.eq_zero_or_pos m with h0 | h0
  · subst h0
    have hl0 : l' = [] := List.eq_nil_of_length_eq_zero hl'
    subst hl0
    refine TL.op (fun ρ hρ => ?_) hd (K w (some ⟨b, 0, none⟩) 0 (Sl.nil _ _ _ _ _) (Ext.refl _) (.inl rfl))
    have hown : w.ownsRow 0 e 1 (.slice (some ⟨b, 0, none⟩) 0 0) 0 [] := ⟨rfl, .inr ⟨b, 0, #[], rfl, Nat.zero_le _, hbb, Nat.le_refl _, Nat.zero_le _, rfl, rfl⟩⟩
    cases A' with
    | none =>
      have := run_append_of_nil (ty := t) hT.out hi hown c'
      simp [execOp, resolve, invoke, builtin, hρ x _ hx, hρ y _ hy, this]
    | some a =>
      have hr := run_append_room (P := P) w ty t e i hT.out hi b 0 0 #[] hbb a 0 c' [] (by simp) (fun j u hj => by simp at hj) (fun u hu => by cases hu) (Nat.le_refl _) (by simp)
      have hself := setRow_self w b #[] e (0, 0) hbb
      simp at hr
      rw [hself] at hr
      simp [execOp, resolve, invoke, builtin, hρ x _ hx, hρ y _ hy, hr]
  · rcases hs.mem with h | ⟨b', o, rfl, _, _⟩
    · omega
    have hr := run_append_grow (P := P) w ty t e i z hT.out hi hz0 ⟨b, 0, none⟩ 0 0 [] (by simp) (fun j u hj => by simp at hj) ⟨b', o, none⟩ m c' (l'.map f) (by simp [hl', hsz]) (sl_cells hs rfl (by omega)) (by omega) (by omega) (growslice_fits (by omega) (by rw [hby]; simpa using hroom.1))
    have hge := grownCap_ge w (0 + m) 0 e
    have hcm : grownCap w (0 + m) 0 e ≤ maxLen := grownCap_le_maxLen w (0 + m) 0 e (by unfold maxLen; omega)
    simp only [Nat.zero_add] at hr hge hcm
    have hB : ∀ cap, m ≤ cap → cap ≤ maxLen → Ow f (w.drew.alloc (.cells (([] : List Value).toArray ++ (l'.map f).toArray ++ Builtin.zeroCells z.cells (cap - m)) e)).heap w.heap.size e (some ⟨w.heap.size, 0, none⟩) m cap l' := by
      intro cap h1 h2
      unfold Ow
      refine ⟨hl', .inr ⟨w.heap.size, _, rfl, Nat.le_refl _, heap_alloc_new w.drew _, h1, h2, ?_, ?_⟩⟩
      · simp [size_zeroCells, hzc, hl']; omega
      · simp [hl']
    have hE : ∀ o, Ext w (w.drew.alloc o) := fun o => ⟨rfl, rfl, rfl, by simp, fun k hk => heap_alloc_old w.drew _ (by simpa using hk)⟩
    refine TL.op (fun ρ hρ => ?_) hd (K _ _ _ ((hB _ hge hcm).sl (Nat.le_refl _)) (hE _) (.inr (hB _ hge hcm)))
    simp [execOp, resolve, invoke, builtin, hρ x _ hx, hρ y _ hy, hr]
/-- a slice stored into a slice of slices -/
theorem TL.storeS {x y : Operand} {ty e : TypeId} {z0 : Value} {b1 : Nat} [hS : USize P ty z0 1 b1] {b k : Nat} {l : List (SA Nat)} {A : Option Addr} {n c : Nat} (u : SA Nat) (hu : u.A = A ∧ u.n = n ∧ u.c = c)
    (hx : look σ x = some (.pointer (elemA (some ⟨b, 0, none⟩) k))) (hy : look σ y = some (.slice A n c)) (hB : Bk sav w.heap b e l) (hk : k < l.length)
    (K : ∀ w', Bk sav w'.heap b e (l.set k u) → Upd b w w' → TL P N .seq ops Q rest σ w') :
    TL P N .seq ops Q (⟨none, .store ty x y, t, pos, af, none⟩ :: rest) σ w := by
  obtain ⟨rfl, rfl, rfl⟩ := hu
  have := TL.store (P := P) (N := N) (ops := ops) (Q := Q) (rest := rest) (ty := ty) (t := t) (pos := pos) (af := af) (f := sav) (o := 0) (k := k) (u := u) rfl rfl (by rw [hx]; simp [elemA, add_mk]) hy hB (by omega)
  rw [Nat.zero_add] at this
  exact this K
end
end Go.Eng
