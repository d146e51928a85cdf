/- The engine, so that each step gives a new world and what it keeps: rules for walks with variables in memory. -/
import Derived.Test.YtgmhldapndhoeaaEngX
set_option linter.unusedVariables false
set_option linter.unusedSimpArgs false
namespace Go.Eng
open Go Go.RowKit

section
variable {P : Program} {N : Nat} {Q : Exit → Act → World → Prop} {σ : Store} {w : World} {ops : Array Oper} {d : Nat} {t : TypeId} {pos : String} {af : Array Edge} {rest : List Oper} {l : List Oper}
theorem T.regionX (id : Nat) (f : Nat) (t : Rt) (hm : P.follows .mixedOrders = true) (hB : treeB l.toArray f t = true) (h : ∀ w1 : World, w1.heap.size = w.heap.size → Ext w w1 → TF P N l Q (fun w' => Ext w w') f t σ w1) : T P N (.region id l.toArray true) Q σ w :=
  T.regionE id f t hm hB (h (w.drewN 1) (by simp) (ext_drewN w 1))
theorem TL.nilX (h : ∀ w1 : World, w1.heap.size = w.heap.size → Ext w w1 → G N .normal Q σ w1) : TL P N .quiet ops Q [] σ w := TL.nilQ fun n => h _ (by simp) (ext_drewN w n)
theorem Pure.clX {f : FuncId} {args : Array Value} {v : Value} (h : Pure P f args w.heap v) : Cl P f args w fun e w' => e = .returned v ∧ w'.heap.size = w.heap.size ∧ Ext w w' := h.cl.mono fun e w' ⟨he, n, hw⟩ => ⟨he, by rw [hw]; simp, by rw [hw]; exact ext_drewN w n⟩
theorem box_lo {w0 w1 : World} {b : Nat} (hE : Ext w0 w1) (e : b = w1.heap.size) : w0.heap.size ≤ b := by have := hE.size; omega
theorem Vr.updX {w w' : World} {b g : Nat} {t : TypeId} {cs : List Value} (hu : Upd g w w') (h : Vr w.heap b t cs) (hne : b ≠ g) : Vr w'.heap b t cs := h.upd hu hne
theorem ext_upd {w0 w1 w2 : World} {b : Nat} (hu : Upd b w1 w2) (hE : Ext w0 w1) (hb : w0.heap.size ≤ b) : Ext w0 w2 := Ext.upd hE hu hb
theorem TL.storeVX {x y : Operand} {ty e : TypeId} {z : Value} {sz b1 : Nat} [hS : USize P ty z sz b1] {b o : Nat} {cs r vs : List Value} (hx : look σ x = some (.pointer (some ⟨b, o, none⟩))) (hy : look σ y = some (.agg vs.toArray))
    (hsz : Nat.beq vs.length sz = true) (h1 : vs.all (·.oneCell') = true) (h : Vr w.heap b e cs ∧ putO cs o vs = some r)
    (K : ∀ w', Vr w'.heap b e r → Upd b w w' → w'.heap.size = w.heap.size → TL P N .seq ops Q rest σ w') : TL P N .seq ops Q (⟨none, .store ty x y, t, pos, af, none⟩ :: rest) σ w :=
  TL.storeVA hx hy hsz h1 h.1 h.2 fun w' h1 h2 => K w' h1 h2 h2.size
theorem TL.storeX {x y : Operand} {ty e : TypeId} {z : Value} {b1 : Nat} [hS : USize P ty z 1 b1] {b o : Nat} {cs r : List Value} {v : Value} (hx : look σ x = some (.pointer (some ⟨b, o, none⟩))) (hy : look σ y = some v) (hvs : v.cells.toList = [v]) (h1 : v.oneCell' = true) (h : Vr w.heap b e cs ∧ putO cs o [v] = some r)
    (K : ∀ w', Vr w'.heap b e r → Upd b w w' → w'.heap.size = w.heap.size → TL P N .seq ops Q rest σ w') : TL P N .seq ops Q (⟨none, .store ty x y, t, pos, af, none⟩ :: rest) σ w :=
  TL.storeV hx hy hvs h1 h.1 h.2 fun w' h1 h2 => K w' h1 h2 h2.size
end
section
variable {P : Program} {σ : Store} {H : Array Obj} {d : Option Tmp} {t : TypeId} {pos : String} {af : Array Edge} {gd : Option (Nat × Bool)}
theorem ev_loadVX {x : Operand} {ty e : TypeId} [hO : UOne P ty] {b o : Nat} {cs : List Value} {v : Value} (hx : look σ x = some (.pointer (some ⟨b, o, none⟩))) (h : Vr H b e cs ∧ nthV cs o = some v) : Ev P σ H ⟨d, .load ty x, t, pos, af, gd⟩ v := ev_loadV hx h.1 h.2
theorem ev_loadVAX {x : Operand} {ty e : TypeId} [hA : UAgg P ty] {z : Value} {sz b1 : Nat} [hS : USize P ty z sz b1] {b o : Nat} {cs cs' : List Value} (hx : look σ x = some (.pointer (some ⟨b, o, none⟩))) (h : Vr H b e cs ∧ subV cs o sz = some cs') :
    Ev P σ H ⟨d, .load ty x, t, pos, af, gd⟩ (.agg cs'.toArray) := ev_loadVA hx h.1 h.2
end

theorem putV_of_O : ∀ (cs : List Value) (off : Nat) (vs r : List Value), putO cs off vs = some r → putV cs off vs = r
  | cs, off, [], r, h => by simp [putO] at h; rw [putV_nil, h]
  | [], off, v :: vs, r, h => by simp [putO] at h
  | c :: cs, 0, v :: vs, r, h => by
    simp only [putO] at h
    cases hq : putO cs 0 vs with
    | none => rw [hq] at h; simp at h
    | some l => rw [hq] at h; simp at h; subst h; simp [putV, putV_of_O cs 0 vs l hq]
  | c :: cs, off + 1, v :: vs, r, h => by
    simp only [putO] at h
    cases hq : putO cs off (v :: vs) with
    | none => rw [hq] at h; simp at h
    | some l => rw [hq] at h; simp at h; subst h; simp [putV, putV_of_O cs off (v :: vs) l hq]
def nthP : List (Nat × Nat) → Nat → Option (Nat × Nat)
  | [], _ => none
  | p :: _, 0 => some p
  | _ :: l, i + 1 => nthP l i
theorem nthP_eq (l : List (Nat × Nat)) (i : Nat) : nthP l i = l[i]? := by
  induction l generalizing i with
  | nil => rfl
  | cons v l ih => cases i <;> simp [nthP, ih]
def fillO (pl : List (Nat × Nat)) : List Value → List (Nat × Value) → Option (List Value)
  | cs, [] => some cs
  | cs, (i, v) :: rest => match nthP pl i with
    | none => none
    | some (off, size) => match Nat.beq v.cells.toList.length size && Nat.ble (off + size) cs.length with
      | true => match putO cs off v.cells.toList with
        | some cs' => fillO pl cs' rest
        | none => none
      | false => none
theorem fillO_eq {pl : List (Nat × Nat)} : ∀ (parts : List (Nat × Value)) (cs r : List Value), fillO pl cs parts = some r → fillV pl cs parts = some r
  | [], cs, r, h => by simpa [fillO, fillV] using h
  | (i, v) :: rest, cs, r, h => by
    simp only [fillO, nthP_eq] at h
    cases hp : pl[i]? with
    | none => rw [hp] at h; simp at h
    | some os =>
      obtain ⟨off, size⟩ := os
      rw [hp] at h
      simp only at h
      cases hb : (Nat.beq v.cells.toList.length size && Nat.ble (off + size) cs.length) with
      | false => rw [hb] at h; simp at h
      | true =>
        rw [hb] at h
        simp only at h
        cases hq : putO cs off v.cells.toList with
        | none => rw [hq] at h; simp at h
        | some cs' =>
          rw [hq] at h
          simp only at h
          simp only [fillV, hp]
          rw [hb, putV_of_O _ _ _ _ hq]
          simpa using fillO_eq rest cs' r h
section
variable {P : Program} {σ : Store} {H : Array Obj} {d : Option Tmp} {t : TypeId} {pos : String} {af : Array Edge} {gd : Option (Nat × Bool)}
theorem ev_buildX {ty : TypeId} {pl : List (Nat × Nat)} [hU : UStruct P ty pl] {z : List Value} {sz b1 : Nat} [hS : USize P ty (.agg z.toArray) sz b1] {parts : List (Nat × Operand)} {vs : List (Nat × Value)} {r : List Value}
    (hp : looksP σ parts = some vs) (hr : fillO pl z vs = some r) : Ev P σ H ⟨d, .build ty parts.toArray, t, pos, af, gd⟩ (.agg r.toArray) := ev_build hp (fillO_eq _ _ _ hr)
end

theorem Sm.upd {α : Type} {k : Nat} {f : α → List Value} {w w' : World} {B n c b : Nat} {A : Option Addr} {l : List α} (hu : Upd b w w') (h : Sm k f w.heap B A n c l) (hb : B ≤ b) : Sm k f w'.heap B A n c l := h.below (hu.below hb)
/-- no word among the cells -/
def noU64 : Value → Bool
  | .int .u64 _ => false
  | _ => true
theorem off_var {α : Type} {f : α → Value} (hf : ∀ x, noU64 (f x) = false) {H : Array Obj} {B n c b : Nat} {A : Option Addr} {l : List α} {t : TypeId} {cs : List Value} (h : Sl f H B A n c l) (hV : Vr H b t cs) (hc : cs.all noU64 = true) : n = 0 ∨ ∀ a, A = some a → a.block ≠ b := by
  rcases h.mem with h0 | ⟨b', o, rfl, _, hm⟩
  · exact .inl h0
  · rcases Nat.eq_zero_or_pos n with h0 | h0
    · exact .inl h0
    · refine .inr fun a ha hab => ?_
      cases ha
      simp only at hab
      subst hab
      have hl : 0 < l.length := by have := h.len; omega
      have h1 := hm 0 l[0] (List.getElem?_eq_getElem hl)
      rw [hV.cell] at h1
      have h2 := List.all_eq_true.1 hc _ (List.mem_of_getElem? h1)
      rw [hf] at h2
      cases h2
theorem sl_updV {w w' : World} {B n c b : Nat} {A : Option Addr} {l : List Nat} {t : TypeId} {cs : List Value} (hu : Upd b w w') (hV : Vr w.heap b t cs) (hc : cs.all noU64 = true) (h : Sl u64v w.heap B A n c l) : Sl u64v w'.heap B A n c l := by
  have ho := off_var (fun x => rfl) h hV hc
  refine ⟨h.len, h.cap, ?_⟩
  rcases h.mem with h0 | ⟨b', o, e, hlt, hm⟩
  · exact .inl h0
  · rcases ho with h0 | ho
    · exact .inl h0
    · refine .inr ⟨b', o, e, hlt, fun j x hx => ?_⟩
      have hne : b' ≠ b := ho _ e
      have := hm j x hx
      unfold hcell at this ⊢
      rw [hu.block b' hne]
      exact this
/-- an integer in memory: its sign's flag and its words -/
structure IV where
  neg : Bool
  m : SA Nat
instance : Inhabited IV := ⟨⟨false, default⟩⟩
def ivc (x : IV) : List Value := [.bool x.neg, .slice x.m.A x.m.n x.m.c]
/-- a matrix in memory -/
structure MV where
  r : Int
  c : Int
  A : Option Addr
  n : Nat
  k : Nat
  l : List IV
instance : Inhabited MV := ⟨⟨0, 0, none, 0, 0, []⟩⟩
def mvc (x : MV) : List Value := [.int .i64 x.r, .int .i64 x.c, .slice x.A x.n x.k]
end Go.Eng
