/- A region whose order is drawn: a walk in one order, where each operation is of one of three kinds: 0 looks at no memory, 1 only reads and comes before all later effects, 2 an effect, which stands alone when its turn comes. The engine of these proofs: a small calculus over the model's weakest preconditions. A state is a store (slots that are known, with their values) and a world; each rule is proved once over any program. The engine, more operations. The engine: ints that are natural numbers, in memory. -/
import Derived.StillTail
import Derived.Deep.Draws
import Derived.Below
import Derived.Deep.Quiet
import Derived.Tactics
import Derived.WalkKit
set_option linter.unusedVariables false
set_option linter.unusedSimpArgs false
namespace Go.Eng
open Go

section
variable {P : Program} {ops : Array Oper} {Q : Exit → Act → World → Prop}

def chainL (ops : Array Oper) : Nat → List Nat → Bool
  | _, [] => true
  | t, u :: r => Region.waitsFor .any ops u t && chainL ops u r
def reach (ops : Array Oper) (i : Nat) : Nat → Nat → Bool
  | 0, e => Region.waitsFor .any ops e i
  | f + 1, e => Region.waitsFor .any ops e i || (List.range ops.size).any fun k => Region.waitsFor .any ops e k && reach ops i f k
def effs : List (Nat × Nat) → List Nat
  | [] => []
  | (i, 0) :: r => effs r
  | (i, 1) :: r => effs r
  | (i, _ + 2) :: r => i :: effs r
def lateB (ops : Array Oper) (i : Nat) : List Nat → Bool
  | [] => true
  | e :: r => reach ops i 2 e && chainL ops e r
def mixC (ops : Array Oper) (E : List Nat) : List (Nat × Nat) → Array Bool → Bool
  | [], L => (Region.ready .any ops L).isEmpty
  | (i, 0) :: r, L => (Region.ready .any ops L).contains i && Region.free .any ops L i && !E.contains i && mixC ops E r (L.setIfInBounds i true)
  | (i, 1) :: r, L => (Region.ready .any ops L).contains i && Region.free .any ops L i && !E.contains i && lateB ops i (effs r) && mixC ops E r (L.setIfInBounds i true)
  | (i, _ + 2) :: r, L => decide (Region.ready .any ops L = [i]) && E.contains i && mixC ops E r (L.setIfInBounds i true)
def mixB (ops : Array Oper) (r : List (Nat × Nat)) : Bool := Region.noSelect ops && Nat.beq r.length ops.size && mixC ops (effs r) r (Array.replicate ops.size false)

structure CInv (ops : Array Oper) (L : Array Bool) : Prop where
  size : L.size = ops.size
  closed : ∀ j oj, ops[j]? = some oj → L.getD j false = true → ∀ e ∈ oj.after, Region.binds .any e = true → L.getD e.on false = true
theorem CInv.set {i : Nat} {L : Array Bool} (inv : CInv ops L) (hi : i ∈ Region.ready .any ops L) : CInv ops (L.setIfInBounds i true) := by
  obtain ⟨_, oi, hoi, hall⟩ := mem_ready.1 hi
  refine ⟨by simp [inv.size], fun j oj hj hl e he hb => ?_⟩
  by_cases hij : i = j
  · subst hij
    have : oj = oi := Option.some.inj (hj.symm.trans hoi)
    subst this
    exact getD_set_true (hall e he hb)
  · rw [getD_set_ne false hij] at hl
    exact getD_set_true (inv.closed j oj hj hl e he hb)
theorem waits_un {L : Array Bool} (inv : CInv ops L) {j i : Nat} (hw : Region.waitsFor .any ops j i = true) (hi : L.getD i false = false) : L.getD j false = false ∧ j ∉ Region.ready .any ops L := by
  obtain ⟨oj, hoj, e, he, hb, hon⟩ := Region.waitsFor_spec hw
  constructor
  · cases hl : L.getD j false with
    | false => rfl
    | true => have := inv.closed j oj hoj hl e he hb; rw [hon, hi] at this; cases this
  · intro hr
    obtain ⟨_, o', ho', hall⟩ := mem_ready.1 hr
    have : o' = oj := Option.some.inj (ho'.symm.trans hoj)
    subst this
    have := hall e he hb
    rw [hon, hi] at this
    cases this
theorem chain_spec {L : Array Bool} (inv : CInv ops L) : ∀ (t : Nat) (T : List Nat), chainL ops t T = true → L.getD t false = false → ∀ u ∈ T, u ∉ Region.ready .any ops L
  | _, [], _, _, u, hu => by cases hu
  | t, q :: r, h, ht, u, hu => by
    simp only [chainL, Bool.and_eq_true] at h
    have h1 := waits_un inv h.1 ht
    rcases List.mem_cons.1 hu with rfl | hu'
    · exact h1.2
    · exact chain_spec inv q r h.2 h1.1 u hu'
theorem reach_un {L : Array Bool} (inv : CInv ops L) {i : Nat} (hi : L.getD i false = false) : ∀ (f e : Nat), reach ops i f e = true → L.getD e false = false ∧ e ∉ Region.ready .any ops L
  | 0, e, h => waits_un inv h hi
  | f + 1, e, h => by
    simp only [reach, Bool.or_eq_true] at h
    rcases h with h | h
    · exact waits_un inv h hi
    · obtain ⟨k, _, hk⟩ := List.any_eq_true.1 h
      simp only [Bool.and_eq_true] at hk
      exact waits_un inv hk.1 (reach_un inv hi f k hk.2).1
theorem late_spec {L : Array Bool} (inv : CInv ops L) {i : Nat} (hi : L.getD i false = false) : ∀ (T : List Nat), lateB ops i T = true → ∀ u ∈ T, u ∉ Region.ready .any ops L
  | [], _, u, hu => by cases hu
  | e :: r, h, u, hu => by
    simp only [lateB, Bool.and_eq_true] at h
    have h1 := reach_un inv hi 2 e h.1
    rcases List.mem_cons.1 hu with rfl | hu'
    · exact h1.2
    · exact chain_spec inv e r h.2 h1.1 u hu'

/-- whatever order is drawn; operations outside of E are still -/
def wpAnyE (P : Program) (ops : Array Oper) (E : List Nat) (Q : Exit → Act → World → Prop) : Nat → Array Bool → Act → World → Prop
  | 0, L, a, w => Region.ready .any ops L = [] ∧ Q .normal a w
  | f + 1, L, a, w => (Region.ready .any ops L = [] → Q .normal a w) ∧ ∀ i ∈ Region.ready .any ops L,
    if E.contains i then wpOp P ops Q i (wpAnyE P ops E Q f (L.setIfInBounds i true)) a w else stOp P ops w i (fun a' => wpAnyE P ops E Q f (L.setIfInBounds i true) a' w) a
theorem wpAny_of_E {E : List Nat} : ∀ (f : Nat) (L : Array Bool) (a : Act) (w : World), wpAnyE P ops E Q f L a w → wpAny P .any ops Q f L a w
  | 0, _, _, _, h => h
  | f + 1, L, a, w, h => ⟨h.1, fun i hi => by
    have h1 := h.2 i hi
    split at h1
    · exact wpOp_mono (fun a' w' => wpAny_of_E f _ a' w') h1
    · exact wpOp_of_stOp (fun a' h' => wpAny_of_E f _ a' w h') h1⟩

theorem yields_at {o : Oper} {v : Value} {a : Act} (h : Yields P ops o v a) (w : World) : YieldsAt P ops w o v a :=
  h.imp (fun ⟨hw, hv⟩ => ⟨hw, .inl (hv w)⟩) id

/-- the operation of kind 0 or 1 may be taken first -/
theorem wpAnyE_first {E : List Nat} {i : Nat} {oi : Oper} {v : Value} (Y : Act → World → Prop) (late : List Nat) (hi : ops[i]? = some oi) (hiE : E.contains i = false) (hsel : ∀ (j : Nat) (o : Oper) cs b, ops[j]? = some o → o.op ≠ .select cs b)
    (hQ : ∀ c a w, Q (.panic c) (a.put oi.dst v) w → Q (.panic c) a w)
    (hY : ∀ a w, Y a w → YieldsAt P ops w oi v a)
    (hYput : ∀ a w (oj : Oper) u, Y a w → oi.apart ops oj = true → (∀ cs b, oi.op ≠ .select cs b) → Y (a.put oj.dst u) w)
    (hE : (∀ a w, Y a w → Yields P ops oi v a ∧ ∀ a' w', Yields P ops oi v a' → Y a' w') ∨ (∀ L, CInv ops L → L.getD i false = false → ∀ u ∈ late, u ∉ Region.ready .any ops L)) :
    ∀ (f : Nat) (L : Array Bool) (a : Act) (w : World), CInv ops L → (∀ e, E.contains e = true → L.getD e false = true ∨ e ∈ late) →
      (∀ j oj, ops[j]? = some oj → j ≠ i → L.getD j true = false → (∀ e ∈ oj.after, Region.binds .any e = true → e.on ≠ i) → oi.apart ops oj = true) →
      i ∈ Region.ready .any ops L → Y a w →
      wpAnyE P ops E Q f (L.setIfInBounds i true) (a.put oi.dst v) w → wpAnyE P ops E Q (f + 1) L a w := by
  intro f
  induction f with
  | zero =>
    intro L a w inv hlate hfree hr hy H
    refine ⟨fun h => (by rw [h] at hr; cases hr), fun j hj => ?_⟩
    by_cases hji : j = i
    · subst hji; rw [hiE]; exact (hY a w hy).stOp hi (K := fun a' => wpAnyE P ops E Q _ _ a' w) H
    · have := ready_mono hj hji
      rw [H.1] at this
      cases this
  | succ f ih =>
    intro L a w inv hlate hfree hr hy H
    have hun := (mem_ready.1 hr).1
    refine ⟨fun h => (by rw [h] at hr; cases hr), fun j hj => ?_⟩
    by_cases hji : j = i
    · subst hji; rw [hiE]; exact (hY a w hy).stOp hi (K := fun a' => wpAnyE P ops E Q _ _ a' w) H
    · have h1 := H.2 j (ready_mono hj hji)
      obtain ⟨hjun, oj, hoj, hall⟩ := mem_ready.1 hj
      have hnot : ∀ e ∈ oj.after, Region.binds .any e = true → e.on ≠ i := fun e he hb heq => by
        have h1 := hall e he hb
        rw [heq, getD_both hun] at h1
        cases h1
      have hap := hfree j oj hoj hji hjun hnot
      have hfree' : ∀ k ok, ops[k]? = some ok → k ≠ i → (L.setIfInBounds j true).getD k true = false →
          (∀ e ∈ ok.after, Region.binds .any e = true → e.on ≠ i) → oi.apart ops ok = true := fun k ok hk hki hun hno => by
        refine hfree k ok hk hki ?_ hno
        by_cases hjk : j = k
        · subst hjk; exact hjun
        · rw [getD_set_ne true hjk] at hun; exact hun
      have hlate' : ∀ e, E.contains e = true → (L.setIfInBounds j true).getD e false = true ∨ e ∈ late := fun e he => (hlate e he).imp getD_set_true id
      have inv' := inv.set hj
      have hr' := ready_mono hr (Ne.symm hji)
      split
      · rename_i hjE
        rw [hjE, if_pos rfl] at h1
        rcases hE with hE | hE
        · obtain ⟨hyy, hback⟩ := hE a w hy
          have h2 := wpOp_put hoj hap (fun cs b => hsel i oi cs b hi) (fun cs b => hsel j oj cs b hoj) hQ hyy h1
          refine wpOp_mono (fun a' w' h3 => ih (L.setIfInBounds j true) a' w' inv' hlate' hfree' hr' (hback _ _ h3.1) ?_) h2
          rw [Array.setIfInBounds_comm _ _ hji]
          exact h3.2
        · rcases hlate j hjE with h | h
          · rw [getD_both hjun] at h; cases h
          · exact absurd hj (hE L inv (getD_both hun) j h)
      · rename_i hjE
        rw [if_neg hjE] at h1
        obtain ⟨u, hyj, hK⟩ := yieldsAt_of_stOp hoj h1
        obtain ⟨p1, p2, p3⟩ := Oper.apart_spec hap
        have hyj' : YieldsAt P ops w oj u a := hyj.of_same (execOp_put oj (fun cs b => hsel j oj cs b hoj) a oi.dst v p1).symm (wanted_put oj a oi.dst v p1).symm
        refine hyj'.stOp hoj ?_
        refine ih (L.setIfInBounds j true) _ w inv' hlate' hfree' hr' (hYput a w oj u hy hap (fun cs b => hsel i oi cs b hi)) ?_
        rw [Array.setIfInBounds_comm _ _ hji, ← Act.put_comm a v u p2]
        exact hK

/-- the walk in one order -/
def wpMix (P : Program) (ops : Array Oper) (Q : Exit → Act → World → Prop) : List (Nat × Nat) → Act → World → Prop
  | [], a, w => Q .normal a w
  | (i, 0) :: r, a, w => ∃ o v, ops[i]? = some o ∧ Yields P ops o v a ∧ wpMix P ops Q r (a.put o.dst v) w
  | (i, 1) :: r, a, w => ∃ o v, ops[i]? = some o ∧ YieldsAt P ops w o v a ∧ wpMix P ops Q r (a.put o.dst v) w
  | (i, _ + 2) :: r, a, w => wpOp P ops Q i (wpMix P ops Q r) a w
theorem wpAnyE_mix {E : List Nat} (hQ : ∀ c a w, ¬ Q (.panic c) a w) (hsel : Region.noSelect ops = true) : ∀ (r : List (Nat × Nat)) (L : Array Bool) (a : Act) (w : World), CInv ops L → (∀ e, E.contains e = true → L.getD e false = true ∨ e ∈ effs r) → mixC ops E r L = true → wpMix P ops Q r a w → wpAnyE P ops E Q r.length L a w
  | [], L, a, w, inv, hE, hB, h => ⟨by simpa [mixC] using hB, h⟩
  | (i, 0) :: r, L, a, w, inv, hE, hB, h => by
    simp only [mixC, Bool.and_eq_true] at hB
    obtain ⟨⟨⟨hrd, hf⟩, hiE⟩, hB'⟩ := hB
    have hrd' : i ∈ Region.ready .any ops L := by simpa using hrd
    obtain ⟨o, v, ho, hy, h'⟩ := h
    have hiE' : E.contains i = false := by simpa using hiE
    have h2 := wpAnyE_mix hQ hsel r _ _ w (inv.set hrd') (fun e he => (hE e he).imp getD_set_true id) hB' h'
    exact wpAnyE_first (fun a _ => Yields P ops o v a) (effs r) ho hiE' (Region.noSelect_spec hsel) (fun c a w h => absurd h (hQ _ _ _)) (fun a w hy => yields_at hy w)
      (fun a w oj u hy hap hs => by obtain ⟨_, _, p3⟩ := Oper.apart_spec hap; exact hy.of_same (execOp_put o hs a oj.dst u p3) (wanted_put o a oj.dst u p3))
      (.inl fun a w hy => ⟨hy, fun _ _ h => h⟩) r.length L a w inv hE (Region.free_spec ho hf) hrd' hy h2
  | (i, 1) :: r, L, a, w, inv, hE, hB, h => by
    simp only [mixC, Bool.and_eq_true] at hB
    obtain ⟨⟨⟨⟨hrd, hf⟩, hiE⟩, hlt⟩, hB'⟩ := hB
    have hrd' : i ∈ Region.ready .any ops L := by simpa using hrd
    obtain ⟨o, v, ho, hy, h'⟩ := h
    have hiE' : E.contains i = false := by simpa using hiE
    have h2 := wpAnyE_mix hQ hsel r _ _ w (inv.set hrd') (fun e he => (hE e he).imp getD_set_true id) hB' h'
    exact wpAnyE_first (fun a w => YieldsAt P ops w o v a) (effs r) ho hiE' (Region.noSelect_spec hsel) (fun c a w h => absurd h (hQ _ _ _)) (fun a w hy => hy)
      (fun a w oj u hy hap hs => by obtain ⟨_, _, p3⟩ := Oper.apart_spec hap; exact hy.of_same (execOp_put o hs a oj.dst u p3) (wanted_put o a oj.dst u p3))
      (.inr fun L inv hun => late_spec inv hun (effs r) hlt) r.length L a w inv hE (Region.free_spec ho hf) hrd' hy h2
  | (i, k + 2) :: r, L, a, w, inv, hE, hB, h => by
    simp only [mixC, Bool.and_eq_true, decide_eq_true_eq] at hB
    obtain ⟨⟨hrd, hiE⟩, hB'⟩ := hB
    have hrd' : i ∈ Region.ready .any ops L := by rw [hrd]; simp
    refine ⟨fun h1 => (by rw [hrd] at h1; cases h1), fun j hj => ?_⟩
    rw [hrd] at hj
    have hji : j = i := by simpa using hj
    subst hji
    rw [hiE, if_pos rfl]
    refine wpOp_mono (fun a' w' h' => wpAnyE_mix hQ hsel r _ a' w' (inv.set hrd') (fun e he => ?_) hB' h') h
    by_cases hej : e = j
    · subst hej
      obtain ⟨_, o, ho, _⟩ := mem_ready.1 hrd'
      have : e < L.size := by rw [inv.size]; exact (Array.getElem?_eq_some_iff.1 ho).1
      exact .inl (by simp [this])
    · rcases hE e he with h1 | h1
      · exact .inl (getD_set_true h1)
      · simp only [effs] at h1
        rcases List.mem_cons.1 h1 with h1 | h1
        · exact absurd h1 hej
        · exact .inr h1

/-- only the normal end -/
def Only (Q : Exit → Act → World → Prop) : Exit → Act → World → Prop
  | .normal, a, w => Q .normal a w
  | _, _, _ => False
theorem wp_region_mix {id : Nat} {a : Act} {w : World} {l : List Oper} (r : List (Nat × Nat)) (hm : P.follows .mixedOrders = true) (hB : mixB l.toArray r = true)
    (h : wpMix P l.toArray (Only Q) r a (w.drewN 1)) : (Code.region id l.toArray true).wp P Q a w := by
  simp only [mixB, Bool.and_eq_true] at hB
  obtain ⟨⟨hsel, hsum⟩, hB⟩ := hB
  refine wp_mono (Q := Only Q) (wp_region_any hm ?_) ?_
  · have := wpAnyE_mix (P := P) (Q := Only Q) (fun _ _ _ h => h.elim) hsel r (Array.replicate l.toArray.size false) a (w.drewN 1)
      ⟨by simp, fun j oj _ hl => (by rw [getD_replicate_false] at hl; cases hl)⟩ (fun e he => .inr (by simpa using he)) hB h
    rw [Nat.eq_of_beq_eq_true hsum] at this
    exact wpAny_of_E _ _ _ _ this
  · intro e a w he
    cases e <;> first | exact he | exact he.elim

def pick1 : List Oper → Nat → Option Oper
  | [], _ => none
  | o :: _, 0 => some o
  | _ :: l, i + 1 => pick1 l i
theorem pick1_eq : ∀ (l : List Oper) (i : Nat), pick1 l i = l[i]?
  | [], i => by simp [pick1]
  | o :: l, 0 => by simp [pick1]
  | o :: l, i + 1 => by simp [pick1, pick1_eq l i]
theorem wpOp_of_wpList {i : Nat} {o : Oper} {K : Act → World → Prop} {a : Act} {w : World} (hi : ops[i]? = some o) (h : wpList P ops (Only (Exit.then K Q)) [o] a w) : wpOp P ops (Only Q) i K a w := by
  unfold wpOp
  simp only [hi]
  simp only [wpList] at h
  split at h
  · rename_i hw
    rw [if_pos hw]
    refine h.imp (fun h => ?_) (fun h => ⟨h.1, ?_⟩)
    · unfold Oper.wp at h ⊢
      generalize (execOp a.eval o).run P w = q at h ⊢
      cases q with
      | ok n w' =>
        cases n <;> simp only [Oper.upon] at h ⊢ <;> try exact h
      | halt x w' => cases x <;> simp only [Oper.upon] at h ⊢ <;> exact h
    · have := h.2
      exact absurd this (by simp [LetsOut, Only])
  · rename_i hw
    rw [if_neg hw]
    exact h
end
end Go.Eng

namespace Go.Eng
open Go Go.RowKit

/-! ### Stores -/
abbrev Store := List (Nat × Value)
def look1 : Store → Nat → Option Value
  | [], _ => none
  | (j, v) :: σ, i => bif Nat.beq j i then some v else look1 σ i
def look (σ : Store) : Operand → Option Value
  | .tmp t => look1 σ t
  | .const v => some v
  | .global g => some (.pointer (some ⟨g, 0, none⟩))
  | .func f => some (.func (.func f) #[] #[])
def looks (σ : Store) : List Operand → Option (List Value)
  | [] => some []
  | x :: xs => match look σ x with
    | some v => match looks σ xs with
      | some vs => some (v :: vs)
      | none => none
    | none => none

/-- the size of an activation, and the marks that wait for its return -/
structure Fm where
  n : Nat
  ds : List Deferred
structure Rep (N : Fm) (σ : Store) (a : Act) : Prop where
  size : a.tmps.size = N.n
  nodef : a.defers = N.ds
  get : ∀ i v, look1 σ i = some v → a.tmps.getD i undef = v
def Agree (σ : Store) (ρ : Operand → Value) : Prop := ∀ x v, look σ x = some v → ρ x = v
theorem Rep.agree {N : Fm} {σ : Store} {a : Act} (h : Rep N σ a) : Agree σ a.eval := by
  intro x v hx
  cases x with
  | tmp t => exact h.get t v hx
  | const u => simpa [look, Act.eval] using hx
  | global g => simpa [look, Act.eval] using hx
  | func f => simpa [look, Act.eval] using hx
theorem Agree.list {σ : Store} {ρ : Operand → Value} (h : Agree σ ρ) : ∀ (xs : List Operand) (vs : List Value), looks σ xs = some vs → xs.map ρ = vs
  | [], vs, e => by simp [looks] at e; simp [e]
  | x :: xs, vs, e => by
    simp only [looks] at e
    cases hx : look σ x with
    | none => rw [hx] at e; simp at e
    | some v =>
      rw [hx] at e
      cases hxs : looks σ xs with
      | none => rw [hxs] at e; simp at e
      | some us =>
        rw [hxs] at e
        simp at e
        subst e
        rw [List.map_cons, h x v hx, Agree.list h xs us hxs]
theorem Rep.put {N : Fm} {σ : Store} {a : Act} (h : Rep N σ a) {d : Nat} (hd : Nat.blt d N.n = true) (v : Value) : Rep N ((d, v) :: σ) (a.put (some d) v) := by
  have hd' : d < N.n := by simpa [Nat.blt_eq] using hd
  refine ⟨by simp [Act.put, h.size], h.nodef, fun i u hu => ?_⟩
  simp only [look1] at hu
  by_cases hi : d = i
  · subst hi
    simp at hu
    subst hu
    simp [Act.put, Array.getD, h.size, hd']
  · have : Nat.beq d i = false := by
      cases hb : Nat.beq d i with
      | false => rfl
      | true => exact absurd (Nat.eq_of_beq_eq_true hb) hi
    rw [this] at hu
    have := h.get i u hu
    simp only [Act.put, Array.getD_eq_getD_getElem?] at this ⊢
    rw [Array.getElem?_setIfInBounds_ne hi]
    exact this
theorem Rep.putNone {N : Fm} {σ : Store} {a : Act} (h : Rep N σ a) (v : Value) : Rep N σ (a.put none v) := h

/-- all that σ' knows, σ knows -/
def Sub (σ' σ : Store) : Prop := ∀ i v, look1 σ' i = some v → look1 σ i = some v
theorem Sub.nil (σ : Store) : Sub [] σ := fun _ _ h => by simp [look1] at h
theorem Sub.cons {i : Nat} {v : Value} {σ' σ : Store} (h : look1 σ i = some v) (k : Sub σ' σ) : Sub ((i, v) :: σ') σ := by
  intro j u hu
  simp only [look1] at hu
  cases hb : Nat.beq i j with
  | true =>
    have := Nat.eq_of_beq_eq_true hb
    subst this
    rw [hb] at hu
    simp at hu
    subst hu
    exact h
  | false => rw [hb] at hu; exact k j u hu
theorem Sub.cons' {i : Nat} {v u : Value} {σ' σ : Store} (h : look1 σ i = some u) (e : u = v) (k : Sub σ' σ) : Sub ((i, v) :: σ') σ := Sub.cons (by rw [h, e]) k
theorem int_congr {k : IntKind} {a b : Int} (h : a = b) : Value.int k a = Value.int k b := by rw [h]
theorem Sub.refl (σ : Store) : Sub σ σ := fun _ _ h => h
theorem Rep.sub {N : Fm} {σ σ' : Store} {a : Act} (h : Rep N σ a) (hs : Sub σ' σ) : Rep N σ' a := ⟨h.size, h.nodef, fun i v hv => h.get i v (hs i v hv)⟩

/-! ### Judgements -/
section
variable (P : Program) (N : Fm)

/-- a list of operations of a region; q: a region whose order is drawn, walked in the order of the text -/
inductive Md where
  | seq
  | quiet
  | still (tail : List Oper)
def TL (q : Md) (ops : Array Oper) (Q : Exit → Act → World → Prop) (l : List Oper) (σ : Store) (w : World) : Prop :=
  ∀ a, Rep N σ a → match q with
    | .seq => wpList P ops Q l a w
    | .quiet => wpQuiet P ops (fun w' => ∃ n, w' = w.drewN n) (fun a' => ∀ w', (∃ n, w' = w.drewN n) → Q .normal a' w') l a
    | .still tail => wpStill P ops w (fun a' => wpList P ops Q tail a' w) l a
/-- a region whose order is drawn, walked in the order of r -/
def TM (l : List Oper) (Q : Exit → Act → World → Prop) (r : List (Nat × Nat)) (σ : Store) (w : World) : Prop :=
  ∀ a, Rep N σ a → wpMix P l.toArray (Only Q) r a w
/-- a piece of code -/
def T (c : Code) (Q : Exit → Act → World → Prop) (σ : Store) (w : World) : Prop := ∀ a, Rep N σ a → c.wp P Q a w
/-- an exit -/
def G (e : Exit) (Q : Exit → Act → World → Prop) (σ : Store) (w : World) : Prop := ∀ a, Rep N σ a → Q e a w
/-- an operation that answers a value and leaves the world alone; it looks at the heap alone -/
def Ev (σ : Store) (H : Array Obj) (o : Oper) (v : Value) : Prop := ∀ ρ w, Agree σ ρ → w.heap = H → (execOp ρ o).run P w = .ok (.value v) w
end

section rules
variable {P : Program} {N : Fm} {Q : Exit → Act → World → Prop} {σ : Store} {w : World}

theorem T.seq {x y : Code} (h : T P N x (Exit.then (y.wp P Q) Q) σ w) : T P N (x.seq y) Q σ w := fun a ha => wp_seq (h a ha)
theorem T.skip (h : G N .normal Q σ w) : T P N .skip Q σ w := fun a ha => wp_skip (h a ha)
theorem T.label {l : Nat} (h : G N .normal Q σ w) : T P N (.label l) Q σ w := fun a ha => wp_label (h a ha)
theorem T.exit {id : Nat} (h : G N (.exit id) Q σ w) : T P N (.exit id) Q σ w := fun a ha => wp_exit (h a ha)
theorem T.ret (h : G N .ret Q σ w) : T P N .ret Q σ w := fun a ha => wp_ret (h a ha)
theorem T.block {id : Nat} {c : Code} (h : T P N c (Exit.inBlock id Q) σ w) : T P N (.block id c) Q σ w := fun a ha => wp_block (h a ha)
theorem T.scope {c : Code} (h : T P N c (Exit.noGoto Q) σ w) : T P N (.scope c) Q σ w := fun a ha => wp_scope_straight (h a ha)
theorem T.cond_t {c : Operand} {x y : Code} (hc : look σ c = some (.bool true)) (h : T P N x Q σ w) : T P N (.cond c x y) Q σ w :=
  fun a ha => wp_cond_true (ha.agree _ _ hc) (h a ha)
theorem T.cond_f {c : Operand} {x y : Code} (hc : look σ c = some (.bool false)) (h : T P N y Q σ w) : T P N (.cond c x y) Q σ w :=
  fun a ha => wp_cond_false (ha.agree _ _ hc) (h a ha)
theorem T.sub {c : Code} {σ' : Store} (hs : Sub σ' σ) (h : T P N c Q σ' w) : T P N c Q σ w := fun a ha => h a (ha.sub hs)
theorem T.region {id : Nat} {l : List Oper} (h : TL P N .seq l.toArray Q l σ w) : T P N (.region id l.toArray false) Q σ w := fun a ha => wp_region_lit (h a ha)
theorem T.regionQ {id : Nat} {l : List Oper} (hm : P.follows .mixedOrders = true) (hB : Region.lexB .any l.toArray = true) (h : TL P N .quiet l.toArray Q l σ w) : T P N (.region id l.toArray true) Q σ w :=
  fun a ha => wp_region_quiet_lit hm hB (h a ha)

theorem G.then {K : Act → World → Prop} (h : ∀ a, Rep N σ a → K a w) : G N .normal (Exit.then K Q) σ w := fun a ha => h a ha
theorem G.next {y : Code} (h : T P N y Q σ w) : G N .normal (Exit.then (y.wp P Q) Q) σ w := fun a ha => h a ha
theorem G.thenE {K : Act → World → Prop} {id : Nat} (h : G N (.exit id) Q σ w) : G N (.exit id) (Exit.then K Q) σ w := fun a ha => h a ha
theorem G.thenR {K : Act → World → Prop} (h : G N .ret Q σ w) : G N .ret (Exit.then K Q) σ w := fun a ha => h a ha
theorem G.blockN {id : Nat} (h : G N .normal Q σ w) : G N .normal (Exit.inBlock id Q) σ w := fun a ha => h a ha
theorem G.blockR {id : Nat} (h : G N .ret Q σ w) : G N .ret (Exit.inBlock id Q) σ w := fun a ha => h a ha
theorem G.blockE {id : Nat} (h : G N .normal Q σ w) : G N (.exit id) (Exit.inBlock id Q) σ w := fun a ha => by simp only [Exit.inBlock, if_true]; exact h a ha
theorem G.blockE' {id id' : Nat} (hne : Nat.beq id' id = false) (h : G N (.exit id') Q σ w) : G N (.exit id') (Exit.inBlock id Q) σ w := fun a ha => by
  have : id' ≠ id := by rintro rfl; simp at hne
  simp only [Exit.inBlock, if_neg this]; exact h a ha
theorem G.sub {e : Exit} {σ' : Store} (hs : Sub σ' σ) (h : G N e Q σ' w) : G N e Q σ w := fun a ha => h a (ha.sub hs)

theorem TL.nil {ops : Array Oper} (h : G N .normal Q σ w) : TL P N .seq ops Q [] σ w := fun a ha => wpList_nil (h a ha)
theorem TL.nilQ {ops : Array Oper} (h : ∀ n, G N .normal Q σ (w.drewN n)) : TL P N .quiet ops Q [] σ w := fun a ha => by
  refine wpQuiet_nil (fun w' hw' => ?_)
  obtain ⟨n, rfl⟩ := hw'
  exact h n a ha
theorem T.regionM {id : Nat} {l : List Oper} (r : List (Nat × Nat)) (hm : P.follows .mixedOrders = true) (hB : mixB l.toArray r = true) (h : TM P N l Q r σ (w.drewN 1)) : T P N (.region id l.toArray true) Q σ w :=
  fun a ha => wp_region_mix r hm hB (h a ha)
theorem TM.nil {l : List Oper} (h : G N .normal Q σ w) : TM P N l Q [] σ w := fun a ha => h a ha
theorem pick_at {l : List Oper} {i : Nat} {o : Oper} (h : pick1 l i = some o) : l.toArray[i]? = some o := by rw [List.getElem?_toArray, ← pick1_eq]; exact h
theorem TM.f {l : List Oper} {i : Nat} {r : List (Nat × Nat)} {d : Nat} {op : Op} {t : TypeId} {pos : String} {af : Array Edge} {v : Value} (hi : pick1 l i = some ⟨some d, op, t, pos, af, none⟩)
    (h : ∀ H, Ev P σ H ⟨some d, op, t, pos, af, none⟩ v) (hd : Nat.blt d N.n = true) (k : TM P N l Q r ((d, v) :: σ) w) : TM P N l Q ((i, 0) :: r) σ w := fun a ha =>
  ⟨_, v, pick_at hi, .inl ⟨by simp [Region.wanted], fun w' => h w'.heap _ w' ha.agree rfl⟩, k _ (ha.put hd v)⟩
theorem TM.s {l : List Oper} {i : Nat} {r : List (Nat × Nat)} {d : Nat} {op : Op} {t : TypeId} {pos : String} {af : Array Edge} {v : Value} (hi : pick1 l i = some ⟨some d, op, t, pos, af, none⟩)
    (h : Ev P σ w.heap ⟨some d, op, t, pos, af, none⟩ v) (hd : Nat.blt d N.n = true) (k : TM P N l Q r ((d, v) :: σ) w) : TM P N l Q ((i, 1) :: r) σ w := fun a ha =>
  ⟨_, v, pick_at hi, .inl ⟨by simp [Region.wanted], .inl (h _ w ha.agree rfl)⟩, k _ (ha.put hd v)⟩
/-- what comes behind an effect -/
def MixK (P : Program) (l : List Oper) (Q : Exit → Act → World → Prop) (r : List (Nat × Nat)) (a : Act) (w : World) : Prop := wpMix P l.toArray (Only Q) r a w
theorem TM.e {l : List Oper} {i : Nat} {r : List (Nat × Nat)} {o : Oper} (hi : pick1 l i = some o) (k : TL P N .seq l.toArray (Only (Exit.then (MixK P l Q r) Q)) [o] σ w) : TM P N l Q ((i, 2) :: r) σ w := fun a ha =>
  wpOp_of_wpList (pick_at hi) (k a ha)
theorem G.mixed {l : List Oper} {r : List (Nat × Nat)} (h : TM P N l Q r σ w) : G N .normal (Exit.then (MixK P l Q r) Q) σ w := fun a ha => h a ha
theorem G.only (h : G N .normal Q σ w) : G N .normal (Only Q) σ w := fun a ha => h a ha
theorem wanted_none {o : Oper} (hg : o.guard = none) (y : Nat → Option Bool) : Region.wanted o y = true := by simp [Region.wanted, hg]
theorem TL.ev {q : Md} {ops : Array Oper} {d : Nat} {op : Op} {t : TypeId} {pos : String} {af : Array Edge} {rest : List Oper} {v : Value}
    (h : Ev P σ w.heap ⟨some d, op, t, pos, af, none⟩ v) (hd : Nat.blt d N.n = true) (k : TL P N q ops Q rest ((d, v) :: σ) w) : TL P N q ops Q (⟨some d, op, t, pos, af, none⟩ :: rest) σ w := by
  intro a ha
  have hk := k _ (ha.put hd v)
  cases q with
  | seq =>
    refine wpList_plain rfl fun K hK => ?_
    unfold Oper.wp
    rw [h _ w ha.agree rfl]
    exact hK _ _ hk
  | still tail =>
    refine wpStill_step fun K hK => ?_
    rw [if_pos (wanted_none rfl _)]
    unfold Oper.still
    rw [h _ w ha.agree rfl, Oper.stillUpon_value]
    exact hK _ hk
  | quiet =>
    refine wpQuiet_step fun K hK => ?_
    rw [if_pos (wanted_none rfl _)]
    refine ⟨v, fun w' hw' => ?_, hK _ hk⟩
    obtain ⟨n, rfl⟩ := hw'
    unfold Oper.quietAt
    rw [h _ (w.drewN n) ha.agree rfl]
    exact ⟨rfl, rfl⟩

/-- the guard says no -/
theorem yielded_of {N : Fm} {σ : Store} {a : Act} {ops : Array Oper} {j t : Nat} {b : Bool} (ha : Rep N σ a) (hj : (ops[j]?).bind (·.dst) = some t) (hb : look1 σ t = some (.bool b)) : yielded ops a.tmps j = some b := by
  have h := ha.get t _ hb
  unfold yielded
  rw [hj]
  simp only [Option.bind_some]
  rw [Array.getD_eq_getD_getElem?] at h
  cases hx : a.tmps[t]? with
  | none => rw [hx] at h; simp [undef] at h
  | some v => rw [hx] at h; simp at h; subst h; rfl
theorem TL.gskip {q : Md} {ops : Array Oper} {d : Nat} {op : Op} {t : TypeId} {pos : String} {af : Array Edge} {rest : List Oper} {j s : Nat} {want b : Bool}
    (hj : (ops[j]?).bind (·.dst) = some s) (hb : look1 σ s = some (.bool b)) (hne : (b == want) = false) (hd : Nat.blt d N.n = true)
    (k : TL P N q ops Q rest ((d, undef) :: σ) w) : TL P N q ops Q (⟨some d, op, t, pos, af, some (j, want)⟩ :: rest) σ w := by
  intro a ha
  have hk := k _ (ha.put hd undef)
  have hw : Region.wanted ⟨some d, op, t, pos, af, some (j, want)⟩ (yielded ops a.tmps) = false := by
    simp only [Region.wanted, yielded_of ha hj hb]
    cases b <;> cases want <;> simp_all
  cases q with
  | seq => refine wpList_step fun K hK => ?_; rw [if_neg (by rw [hw]; simp)]; exact hK _ _ hk
  | still tail => refine wpStill_step fun K hK => ?_; rw [if_neg (by rw [hw]; simp)]; exact hK _ hk
  | quiet => refine wpQuiet_step fun K hK => ?_; rw [if_neg (by rw [hw]; simp)]; exact hK _ hk
/-- the guard says yes: the operation stands without it -/
theorem TL.grun {q : Md} {ops : Array Oper} {d : Option Nat} {op : Op} {t : TypeId} {pos : String} {af : Array Edge} {rest : List Oper} {j s : Nat} {want b : Bool}
    (hj : (ops[j]?).bind (·.dst) = some s) (hb : look1 σ s = some (.bool b)) (heq : (b == want) = true)
    (k : TL P N q ops Q (⟨d, op, t, pos, af, none⟩ :: rest) σ w) : TL P N q ops Q (⟨d, op, t, pos, af, some (j, want)⟩ :: rest) σ w := by
  intro a ha
  have hk := k _ ha
  have hw : Region.wanted ⟨d, op, t, pos, af, some (j, want)⟩ (yielded ops a.tmps) = true := by
    simp only [Region.wanted, yielded_of ha hj hb]
    cases b <;> cases want <;> simp_all
  have hw0 : Region.wanted ⟨d, op, t, pos, af, none⟩ (yielded ops a.tmps) = true := wanted_none rfl _
  cases q with
  | seq =>
    simp only [wpList, hw0, hw, if_true] at hk ⊢
    exact hk
  | still tail =>
    simp only [wpStill, hw0, hw, if_true] at hk ⊢
    exact hk
  | quiet =>
    simp only [wpQuiet, hw0, hw, if_true] at hk ⊢
    exact hk

/-- a loop: x is what the rounds turn, 'st x' the slots at a round's head -/
theorem T.loop {α : Type} {c : Code} (st : α → Store) (I : α → World → Prop) (μ : α → Nat) (x0 : α) (hs : Sub (st x0) σ) (h0 : I x0 w)
    (round : ∀ x w, I x w → T P N c (Exit.then (fun a' w' => ∃ x', Rep N (st x') a' ∧ I x' w' ∧ μ x' < μ x) Q) (st x) w) : T P N (.loop c) Q σ w := by
  intro a ha b k cs
  have key : ∀ n x a w, μ x = n → Rep N (st x) a → I x w →
      ∃ e a' w', Q e a' w' ∧ Arrives P (lone (b.at a (.code c :: .inLoop c :: k)) cs w) b k cs e a' w' := by
    intro n
    induction n using Nat.strongRecOn with
    | _ n ih =>
      intro x a w hx hr hI
      obtain ⟨e, a₁, w₁, hq, harr⟩ := round x w hI a hr b (.inLoop c :: k) cs
      cases e with
      | normal =>
        obtain ⟨x', hr', hI', hlt⟩ := hq
        obtain ⟨e₂, a₂, w₂, hq₂, harr₂⟩ := ih (μ x') (hx ▸ hlt) x' a₁ w₁ rfl hr' hI'
        exact ⟨e₂, a₂, w₂, hq₂, .of_steps (Steps.trans harr (.one step_inLoop)) harr₂⟩
      | exit id => exact ⟨_, a₁, w₁, hq, .pass (x := .inLoop c) rfl (fun _ _ => .inl (by simp)) harr⟩
      | goto l => exact ⟨_, a₁, w₁, hq, .pass (x := .inLoop c) rfl (fun _ _ => .inl (by simp)) harr⟩
      | ret => exact ⟨_, a₁, w₁, hq, .pass (x := .inLoop c) rfl (fun _ _ => .inl (by simp)) harr⟩
      | panic ch => exact ⟨_, a₁, w₁, hq, .pass (x := .inLoop c) rfl (fun _ _ => .inl (by simp)) harr⟩
      | outgrown => exact ⟨_, a₁, w₁, hq, .pass (x := .inLoop c) rfl (fun _ _ => .inl (by simp)) harr⟩
  obtain ⟨e, a', w', hq, harr⟩ := key _ x0 a w rfl (ha.sub hs) h0
  exact ⟨e, a', w', hq, .of_steps (.one step_loop) harr⟩
end rules

/-! ### Types -/
class USlice (P : Program) (t : TypeId) (e : outParam TypeId) : Prop where
  out : P.underlying t = some (.slice e)
class USize (P : Program) (e : TypeId) (z : outParam Value) (sz by_ : outParam Nat) : Prop where
  out : (P.info? e).map (fun i => (i.zero, i.size, i.bytes)) = some (some z, sz, by_)
class UInt (P : Program) (t : TypeId) (k : outParam IntKind) : Prop where
  out : P.underlying t = some (.int k)
class UBool (P : Program) (t : TypeId) : Prop where
  out : P.underlying t = some .bool
/-- a type of one cell -/
class UOne (P : Program) (t : TypeId) : Prop where
  out : ∃ d, P.underlying t = some d ∧ (match d with | .struct _ => false | .array _ _ => false | _ => true) = true
/-- a struct -/
class UAgg (P : Program) (t : TypeId) : Prop where
  out : ∃ fs, P.underlying t = some (.struct fs)
/-- field number f of a struct lies at cell off and is not empty -/
class UField (P : Program) (t : TypeId) (f : Nat) (ft off : outParam Nat) : Prop where
  out : ∃ fs fd, P.underlying t = some (.struct fs) ∧ fs[f]? = some fd ∧ fd.type = ft ∧ fd.offset = off ∧ (P.info? ft).map (fun i => Nat.beq i.size 0) = some false
/-- a function with a body -/
class IsFn (P : Program) (f : FuncId) : Prop where
  out : ∃ fn, P.funcs[f]? = some fn ∧ (fn.name == "runtime.NumGoroutine") = false ∧ fn.body.isNone = false
theorem USize.info {P : Program} {e : TypeId} {z : Value} {sz by_ : Nat} (h : USize P e z sz by_) : ∃ i, P.info? e = some i ∧ i.zero = some z ∧ i.size = sz ∧ i.bytes = by_ := by
  have := h.out
  cases hi : P.info? e with
  | none => rw [hi] at this; simp at this
  | some i => rw [hi] at this; simp at this; exact ⟨i, rfl, this.1, this.2.1, this.2.2⟩

/-- an integer that is a natural number -/
class IsN (z : Int) (n : outParam Nat) : Prop where
  out : z = (n : Int)
instance (priority := 2000) isN_lit (j : Nat) : IsN (no_index (@OfNat.ofNat Int j (@instOfNat j))) (@OfNat.ofNat Nat j (instOfNatNat j)) := ⟨rfl⟩
instance (priority := 3000) isN_cast (n : Nat) : IsN (n : Int) n := ⟨rfl⟩
instance isN_add (z1 z2 : Int) (m n : Nat) [h1 : IsN z1 m] [h2 : IsN z2 n] : IsN (z1 + z2) (m + n) := ⟨by rw [h1.out, h2.out, Int.natCast_add]⟩
instance isN_mul (z1 z2 : Int) (m n : Nat) [h1 : IsN z1 m] [h2 : IsN z2 n] : IsN (z1 * z2) (m * n) := ⟨by rw [h1.out, h2.out, Int.natCast_mul]⟩

/-! ### Operations that answer a value -/
section evs
variable {P : Program} {σ : Store} {H : Array Obj} {d : Option Tmp} {t : TypeId} {pos : String} {af : Array Edge} {gd : Option (Nat × Bool)}

theorem ev_move {x : Operand} {v : Value} (h : look σ x = some v) : Ev P σ H ⟨d, .move x, t, pos, af, gd⟩ v := fun ρ w hρ _ => by
  simp [execOp, hρ x v h]
theorem ev_assign {x : Operand} {v : Value} (h : look σ x = some v) : Ev P σ H ⟨d, .assign x, t, pos, af, gd⟩ v := fun ρ w hρ _ => by
  simp [execOp, hρ x v h]
theorem ev_pick_t {c x y : Operand} {v : Value} (hc : look σ c = some (.bool true)) (h : look σ x = some v) : Ev P σ H ⟨d, .pick c x y, t, pos, af, gd⟩ v := fun ρ w hρ _ => by
  simp [execOp, hρ c _ hc, hρ x v h, asBool]
theorem ev_pick_f {c x y : Operand} {v : Value} (hc : look σ c = some (.bool false)) (h : look σ y = some v) : Ev P σ H ⟨d, .pick c x y, t, pos, af, gd⟩ v := fun ρ w hρ _ => by
  simp [execOp, hρ c _ hc, hρ y v h, asBool]
def nthV : List Value → Nat → Option Value
  | [], _ => none
  | v :: _, 0 => some v
  | _ :: l, i + 1 => nthV l i
theorem nthV_eq (l : List Value) (i : Nat) : nthV l i = l[i]? := by
  induction l generalizing i with
  | nil => rfl
  | cons v l ih => cases i <;> simp [nthV, ih]
theorem ev_extract {x : Operand} {i : Nat} {vs : List Value} {v : Value} (h : look σ x = some (.tuple vs.toArray)) (hi : nthV vs i = some v) : Ev P σ H ⟨d, .extract x i, t, pos, af, gd⟩ v := fun ρ w hρ _ => by
  rw [nthV_eq] at hi
  simp [execOp, hρ x _ h, Instr.extract, hi]
theorem ev_not_t {x : Operand} {ty : TypeId} (h : look σ x = some (.bool true)) : Ev P σ H ⟨d, .unOp .not ty x, t, pos, af, gd⟩ (.bool false) := fun ρ w hρ _ => by
  simp [execOp, hρ x _ h, Op.unary]
theorem ev_not_f {x : Operand} {ty : TypeId} (h : look σ x = some (.bool false)) : Ev P σ H ⟨d, .unOp .not ty x, t, pos, af, gd⟩ (.bool true) := fun ρ w hρ _ => by
  simp [execOp, hρ x _ h, Op.unary]
theorem run_eq_bool {P : Program} {t : TypeId} (h : P.underlying t = some .bool) (a b : Bool) (w : World) : (Op.equal t (.bool a) (.bool b)).run P w = .ok (a == b) w := by
  have h1 : ∀ n : Nat, (Op.equalIn (n + 1) t (.bool a) (.bool b)).run P w = .ok (a == b) w := fun n => by simp [Op.equalIn, run_underlying h]
  simp [Op.equal, Op.maxDepth, h1 9999]
theorem run_eqGuard_bool {P : Program} {op : BinOp} {t : TypeId} {x y : Operand} (a b : Bool) (w : World) : (eqGuard op t x y (.bool a) (.bool b)).run P w = .ok () w := by
  unfold eqGuard; cases op <;> simp
theorem ev_eqlB {x y : Operand} {tx ty : TypeId} [hT : UBool P tx] {a b r : Bool} (hx : look σ x = some (.bool a)) (hy : look σ y = some (.bool b)) (h : (a == b) = r) : Ev P σ H ⟨d, .binOp .eql tx x y ty, t, pos, af, gd⟩ (.bool r) := fun ρ w hρ _ => by
  subst h
  simp [execOp, hρ x _ hx, hρ y _ hy, run_eqGuard_bool, binOp, run_eq_bool hT.out]
theorem ev_neqB {x y : Operand} {tx ty : TypeId} [hT : UBool P tx] {a b r : Bool} (hx : look σ x = some (.bool a)) (hy : look σ y = some (.bool b)) (h : (!(a == b)) = r) : Ev P σ H ⟨d, .binOp .neq tx x y ty, t, pos, af, gd⟩ (.bool r) := fun ρ w hρ _ => by
  subst h
  simp [execOp, hρ x _ hx, hρ y _ hy, run_eqGuard_bool, binOp, run_eq_bool hT.out]
theorem ev_len {x : Operand} {ty e : TypeId} [hT : USlice P ty e] {A : Option Addr} {n c : Nat} (h : look σ x = some (.slice A n c)) :
    Ev P σ H ⟨d, .call { callee := .builtin .len, args := #[x], argTypes := #[ty] }, t, pos, af, gd⟩ (.int .i64 (n : Int)) := fun ρ w hρ _ => by
  simp [execOp, hρ x _ h, resolve, invoke, builtin, Builtin.len_, run_underlying hT.out, goInt]
/-- a binary operation on two integers -/
theorem ev_bin {op : BinOp} {x y : Operand} {tx ty : TypeId} {k k' : IntKind} {m n : Int} {v : Value} (hx : look σ x = some (.int k m)) (hy : look σ y = some (.int k' n))
    (h : ∀ w, (binOp op tx (.int k m) (.int k' n)).run P w = .ok v w) : Ev P σ H ⟨d, .binOp op tx x y ty, t, pos, af, gd⟩ v := fun ρ w hρ _ => by
  have he : ∀ w, (eqGuard op tx x y (.int k m) (.int k' n)).run P w = .ok () w := fun w => by
    unfold eqGuard; cases op <;> simp
  simp [execOp, hρ x _ hx, hρ y _ hy, he, h]
theorem run_bin_add (k : IntKind) (m n : Int) (tx : TypeId) (w : World) : (binOp .add tx (.int k m) (.int k n)).run P w = .ok (.int k (k.wrap (m + n))) w := by simp [binOp, Op.intArith]
theorem run_bin_sub (k : IntKind) (m n : Int) (tx : TypeId) (w : World) : (binOp .sub tx (.int k m) (.int k n)).run P w = .ok (.int k (k.wrap (m - n))) w := by simp [binOp, Op.intArith]
theorem run_bin_mul (k : IntKind) (m n : Int) (tx : TypeId) (w : World) : (binOp .mul tx (.int k m) (.int k n)).run P w = .ok (.int k (k.wrap (m * n))) w := by simp [binOp, Op.intArith]
theorem run_bin_quo (k : IntKind) (m n : Int) (hn : n ≠ 0) (tx : TypeId) (w : World) : (binOp .quo tx (.int k m) (.int k n)).run P w = .ok (.int k (k.wrap (m.tdiv n))) w := by simp [binOp, Op.intDiv, hn]
theorem run_bin_rem (k : IntKind) (m n : Int) (hn : n ≠ 0) (tx : TypeId) (w : World) : (binOp .rem tx (.int k m) (.int k n)).run P w = .ok (.int k (m.tmod n)) w := by simp [binOp, Op.intDiv, hn]

theorem wrap_i64 (n : Int) (h : -9223372036854775808 ≤ n ∧ n < 9223372036854775808) : IntKind.i64.wrap n = n := IntWalk.i64_in n (by omega)
theorem wrap_u64 (n : Int) (h : 0 ≤ n ∧ n < 18446744073709551616) : IntKind.u64.wrap n = n := IntWalk.u64_in n (by omega)
theorem wrap_u64N (n : Nat) : IntKind.u64.wrap (n : Int) = ((n % 18446744073709551616 : Nat) : Int) := by rw [IntKind.wrap_u64]; omega

section ints
variable {x y : Operand} {tx ty : TypeId}
theorem ev_add {m n : Int} (hx : look σ x = some (.int .i64 m)) (hy : look σ y = some (.int .i64 n)) (h : -9223372036854775808 ≤ m + n ∧ m + n < 9223372036854775808) :
    Ev P σ H ⟨d, .binOp .add tx x y ty, t, pos, af, gd⟩ (.int .i64 (m + n)) := ev_bin hx hy fun w => by rw [run_bin_add, wrap_i64 _ h]
theorem ev_sub {m n : Int} (hx : look σ x = some (.int .i64 m)) (hy : look σ y = some (.int .i64 n)) (h : -9223372036854775808 ≤ m - n ∧ m - n < 9223372036854775808) :
    Ev P σ H ⟨d, .binOp .sub tx x y ty, t, pos, af, gd⟩ (.int .i64 (m - n)) := ev_bin hx hy fun w => by rw [run_bin_sub, wrap_i64 _ h]
theorem ev_mul {m n : Int} (hx : look σ x = some (.int .i64 m)) (hy : look σ y = some (.int .i64 n)) (h : -9223372036854775808 ≤ m * n ∧ m * n < 9223372036854775808) :
    Ev P σ H ⟨d, .binOp .mul tx x y ty, t, pos, af, gd⟩ (.int .i64 (m * n)) := ev_bin hx hy fun w => by rw [run_bin_mul, wrap_i64 _ h]
theorem ev_addN {z1 z2 : Int} {m n : Nat} [e1 : IsN z1 m] [e2 : IsN z2 n] (hx : look σ x = some (.int .i64 z1)) (hy : look σ y = some (.int .i64 z2)) (h : m + n < 9223372036854775808) :
    Ev P σ H ⟨d, .binOp .add tx x y ty, t, pos, af, gd⟩ (.int .i64 ((m + n : Nat) : Int)) := ev_bin (by rw [hx, e1.out]) (by rw [hy, e2.out]) fun w => by rw [run_bin_add, wrap_i64 _ (by omega), Int.natCast_add]
theorem ev_subN {z1 z2 : Int} {m n : Nat} [e1 : IsN z1 m] [e2 : IsN z2 n] (hx : look σ x = some (.int .i64 z1)) (hy : look σ y = some (.int .i64 z2)) (h : n ≤ m ∧ m < 9223372036854775808) :
    Ev P σ H ⟨d, .binOp .sub tx x y ty, t, pos, af, gd⟩ (.int .i64 ((m - n : Nat) : Int)) := ev_bin (by rw [hx, e1.out]) (by rw [hy, e2.out]) fun w => by rw [run_bin_sub, wrap_i64 _ (by omega), Int.natCast_sub h.1]
theorem ev_mulN {z1 z2 : Int} {m n : Nat} [e1 : IsN z1 m] [e2 : IsN z2 n] (hx : look σ x = some (.int .i64 z1)) (hy : look σ y = some (.int .i64 z2)) (h : m * n < 9223372036854775808) :
    Ev P σ H ⟨d, .binOp .mul tx x y ty, t, pos, af, gd⟩ (.int .i64 ((m * n : Nat) : Int)) := ev_bin (by rw [hx, e1.out]) (by rw [hy, e2.out]) fun w => by
  rw [run_bin_mul, ← Int.natCast_mul, wrap_i64 _ (by omega)]
theorem ev_quoN {z1 z2 : Int} {m n : Nat} [e1 : IsN z1 m] [e2 : IsN z2 n] (hx : look σ x = some (.int .i64 z1)) (hy : look σ y = some (.int .i64 z2)) (h : 0 < n ∧ m < 9223372036854775808) :
    Ev P σ H ⟨d, .binOp .quo tx x y ty, t, pos, af, gd⟩ (.int .i64 ((m / n : Nat) : Int)) := ev_bin (by rw [hx, e1.out]) (by rw [hy, e2.out]) fun w => by
  have h1 : m / n ≤ m := Nat.div_le_self _ _
  have h2 := Int.natCast_nonneg (m / n)
  rw [run_bin_quo _ _ _ (by omega), Int.tdiv_eq_ediv_of_nonneg (by omega), ← Int.natCast_ediv, wrap_i64 _ ⟨by omega, by omega⟩]
theorem ev_remN {z1 z2 : Int} {m n : Nat} [e1 : IsN z1 m] [e2 : IsN z2 n] (hx : look σ x = some (.int .i64 z1)) (hy : look σ y = some (.int .i64 z2)) (h : 0 < n) :
    Ev P σ H ⟨d, .binOp .rem tx x y ty, t, pos, af, gd⟩ (.int .i64 ((m % n : Nat) : Int)) := ev_bin (by rw [hx, e1.out]) (by rw [hy, e2.out]) fun w => by
  rw [run_bin_rem _ _ _ (by omega), Int.tmod_eq_emod_of_nonneg (by omega), ← Int.natCast_emod]
theorem ev_addU {z1 z2 : Int} {m n : Nat} [e1 : IsN z1 m] [e2 : IsN z2 n] (hx : look σ x = some (.int .u64 z1)) (hy : look σ y = some (.int .u64 z2)) :
    Ev P σ H ⟨d, .binOp .add tx x y ty, t, pos, af, gd⟩ (.int .u64 (((m + n) % 18446744073709551616 : Nat) : Int)) := ev_bin (by rw [hx, e1.out]) (by rw [hy, e2.out]) fun w => by rw [run_bin_add, ← Int.natCast_add, wrap_u64N]
theorem ev_mulU {z1 z2 : Int} {m n : Nat} [e1 : IsN z1 m] [e2 : IsN z2 n] (hx : look σ x = some (.int .u64 z1)) (hy : look σ y = some (.int .u64 z2)) :
    Ev P σ H ⟨d, .binOp .mul tx x y ty, t, pos, af, gd⟩ (.int .u64 (((m * n) % 18446744073709551616 : Nat) : Int)) := ev_bin (by rw [hx, e1.out]) (by rw [hy, e2.out]) fun w => by rw [run_bin_mul, ← Int.natCast_mul, wrap_u64N]
theorem ev_quoU {z1 z2 : Int} {m n : Nat} [e1 : IsN z1 m] [e2 : IsN z2 n] (hx : look σ x = some (.int .u64 z1)) (hy : look σ y = some (.int .u64 z2)) (h : 0 < n ∧ m < 18446744073709551616) :
    Ev P σ H ⟨d, .binOp .quo tx x y ty, t, pos, af, gd⟩ (.int .u64 ((m / n : Nat) : Int)) := ev_bin (by rw [hx, e1.out]) (by rw [hy, e2.out]) fun w => by
  have h1 : m / n ≤ m := Nat.div_le_self _ _
  have h2 := Int.natCast_nonneg (m / n)
  rw [run_bin_quo _ _ _ (by omega), Int.tdiv_eq_ediv_of_nonneg (by omega), ← Int.natCast_ediv, wrap_u64 _ ⟨by omega, by omega⟩]
theorem ev_remU {z1 z2 : Int} {m n : Nat} [e1 : IsN z1 m] [e2 : IsN z2 n] (hx : look σ x = some (.int .u64 z1)) (hy : look σ y = some (.int .u64 z2)) (h : 0 < n) :
    Ev P σ H ⟨d, .binOp .rem tx x y ty, t, pos, af, gd⟩ (.int .u64 ((m % n : Nat) : Int)) := ev_bin (by rw [hx, e1.out]) (by rw [hy, e2.out]) fun w => by
  rw [run_bin_rem _ _ _ (by omega), Int.tmod_eq_emod_of_nonneg (by omega), ← Int.natCast_emod]
theorem two_pow_cast (n : Nat) : (2 : Int) ^ n = ((2 ^ n : Nat) : Int) := by rw [Int.natCast_pow]; rfl
theorem ev_shrU {z1 z2 : Int} {k' : IntKind} {m n : Nat} [e1 : IsN z1 m] [e2 : IsN z2 n] (hx : look σ x = some (.int .u64 z1)) (hy : look σ y = some (.int k' z2)) (hm : m < 18446744073709551616) :
    Ev P σ H ⟨d, .binOp .shr tx x y ty, t, pos, af, gd⟩ (.int .u64 ((m / 2 ^ n : Nat) : Int)) := ev_bin (by rw [hx, e1.out]) (by rw [hy, e2.out]) fun w => by
  simp only [binOp, Op.shift, if_neg (show ¬ ((n : Int) < 0) by omega), Int.toNat_natCast, IntKind.bits, Sem.run_pure]
  rw [two_pow_cast, Int.fdiv_eq_ediv_of_nonneg _ (Int.natCast_nonneg _), ← Int.natCast_ediv]
  rcases Nat.le_total n 64 with h | h
  · rw [Nat.min_eq_left h]
  · rw [Nat.min_eq_right h, Nat.div_eq_of_lt (by omega), Nat.div_eq_of_lt]
    exact Nat.lt_of_lt_of_le (show m < 2 ^ 64 by omega) (Nat.pow_le_pow_right (by omega) h)
theorem ev_shlU {z1 z2 : Int} {k' : IntKind} {m n : Nat} [e1 : IsN z1 m] [e2 : IsN z2 n] (hx : look σ x = some (.int .u64 z1)) (hy : look σ y = some (.int k' z2)) :
    Ev P σ H ⟨d, .binOp .shl tx x y ty, t, pos, af, gd⟩ (.int .u64 ((m * 2 ^ n % 18446744073709551616 : Nat) : Int)) := ev_bin (by rw [hx, e1.out]) (by rw [hy, e2.out]) fun w => by
  simp only [binOp, Op.shift, if_neg (show ¬ ((n : Int) < 0) by omega), Int.toNat_natCast, IntKind.bits, Sem.run_pure]
  rw [two_pow_cast, ← Int.natCast_mul, wrap_u64N]
  rcases Nat.le_total n 64 with h | h
  · rw [Nat.min_eq_left h]
  · rw [Nat.min_eq_right h]
    have e : n = 64 + (n - 64) := by omega
    rw [e, Nat.pow_add, ← Nat.mul_assoc]
    have h1 : m * 2 ^ 64 % 18446744073709551616 = 0 := by omega
    have h2 : m * 2 ^ 64 * 2 ^ (n - 64) % 18446744073709551616 = 0 := by rw [Nat.mul_mod, h1]; simp
    rw [h1, h2]
theorem bits_and_u64 (m n : Nat) (hm : m < 18446744073709551616) (hn : n < 18446744073709551616) (w : World) : (binOp .and tx (.int .u64 (m : Int)) (.int .u64 (n : Int))).run P w = .ok (.int .u64 ((m &&& n : Nat) : Int)) w := by
  have h : m &&& n < 2 ^ 64 := Nat.and_lt_two_pow _ hn
  show Result.ok (Value.int .u64 (IntKind.u64.wrap ((BitVec.ofInt 64 (m : Int) &&& BitVec.ofInt 64 (n : Int)).toNat : Int))) w = _
  rw [BitVec.toNat_and, BitVec.ofInt_natCast, BitVec.ofInt_natCast, BitVec.toNat_ofNat, BitVec.toNat_ofNat, Nat.mod_eq_of_lt hm, Nat.mod_eq_of_lt hn, wrap_u64 _ (by omega)]
theorem bits_or_u64 (m n : Nat) (hm : m < 18446744073709551616) (hn : n < 18446744073709551616) (w : World) : (binOp .or tx (.int .u64 (m : Int)) (.int .u64 (n : Int))).run P w = .ok (.int .u64 ((m ||| n : Nat) : Int)) w := by
  have h : m ||| n < 2 ^ 64 := Nat.or_lt_two_pow hm hn
  show Result.ok (Value.int .u64 (IntKind.u64.wrap ((BitVec.ofInt 64 (m : Int) ||| BitVec.ofInt 64 (n : Int)).toNat : Int))) w = _
  rw [BitVec.toNat_or, BitVec.ofInt_natCast, BitVec.ofInt_natCast, BitVec.toNat_ofNat, BitVec.toNat_ofNat, Nat.mod_eq_of_lt hm, Nat.mod_eq_of_lt hn, wrap_u64 _ (by omega)]
theorem ev_andU {z1 z2 : Int} {m n : Nat} [e1 : IsN z1 m] [e2 : IsN z2 n] (hx : look σ x = some (.int .u64 z1)) (hy : look σ y = some (.int .u64 z2)) (hm : m < 18446744073709551616) (hn : n < 18446744073709551616) :
    Ev P σ H ⟨d, .binOp .and tx x y ty, t, pos, af, gd⟩ (.int .u64 ((m &&& n : Nat) : Int)) := ev_bin (by rw [hx, e1.out]) (by rw [hy, e2.out]) (bits_and_u64 m n hm hn)
theorem ev_orU {z1 z2 : Int} {m n : Nat} [e1 : IsN z1 m] [e2 : IsN z2 n] (hx : look σ x = some (.int .u64 z1)) (hy : look σ y = some (.int .u64 z2)) (hm : m < 18446744073709551616) (hn : n < 18446744073709551616) :
    Ev P σ H ⟨d, .binOp .or tx x y ty, t, pos, af, gd⟩ (.int .u64 ((m ||| n : Nat) : Int)) := ev_bin (by rw [hx, e1.out]) (by rw [hy, e2.out]) (bits_or_u64 m n hm hn)
/-- a comparison, by its outcome -/
theorem ev_lss {b : Bool} {k : IntKind} {m n : Int} (hx : look σ x = some (.int k m)) (hy : look σ y = some (.int k n)) (h : decide (m < n) = b) : Ev P σ H ⟨d, .binOp .lss tx x y ty, t, pos, af, gd⟩ (.bool b) := ev_bin hx hy fun w => by subst h; simp [binOp, Op.intCmp]
theorem ev_leq {b : Bool} {k : IntKind} {m n : Int} (hx : look σ x = some (.int k m)) (hy : look σ y = some (.int k n)) (h : decide (m ≤ n) = b) : Ev P σ H ⟨d, .binOp .leq tx x y ty, t, pos, af, gd⟩ (.bool b) := ev_bin hx hy fun w => by subst h; simp [binOp, Op.intCmp]
theorem ev_gtr {b : Bool} {k : IntKind} {m n : Int} (hx : look σ x = some (.int k m)) (hy : look σ y = some (.int k n)) (h : decide (n < m) = b) : Ev P σ H ⟨d, .binOp .gtr tx x y ty, t, pos, af, gd⟩ (.bool b) := ev_bin hx hy fun w => by subst h; simp [binOp, Op.intCmp]
theorem ev_geq {b : Bool} {k : IntKind} {m n : Int} (hx : look σ x = some (.int k m)) (hy : look σ y = some (.int k n)) (h : decide (n ≤ m) = b) : Ev P σ H ⟨d, .binOp .geq tx x y ty, t, pos, af, gd⟩ (.bool b) := ev_bin hx hy fun w => by subst h; simp [binOp, Op.intCmp]
theorem ev_eql {b : Bool} {k : IntKind} {m n : Int} (hx : look σ x = some (.int k m)) (hy : look σ y = some (.int k n)) (h : decide (m = n) = b) : Ev P σ H ⟨d, .binOp .eql tx x y ty, t, pos, af, gd⟩ (.bool b) := ev_bin hx hy fun w => by
  subst h; simp only [binOp, ne_eq, not_true_eq_false, if_false, Op.intCmp, Sem.run_pure]; rfl
theorem ev_neq {b : Bool} {k : IntKind} {m n : Int} (hx : look σ x = some (.int k m)) (hy : look σ y = some (.int k n)) (h : decide (m = n) = !b) : Ev P σ H ⟨d, .binOp .neq tx x y ty, t, pos, af, gd⟩ (.bool b) := ev_bin hx hy fun w => by
  have e : b = !(decide (m = n)) := by rw [h]; simp
  subst e; simp only [binOp, ne_eq, not_true_eq_false, if_false, Op.intCmp, Sem.run_pure]; rfl
end ints

/-- a conversion between kinds of integers -/
theorem ev_conv {x : Operand} {ts td : TypeId} {ks kd k0 : IntKind} [hs : UInt P ts ks] [hd : UInt P td kd] {n : Int} (h : look σ x = some (.int k0 n)) (hn : kd.wrap n = n) :
    Ev P σ H ⟨d, .convert ts td x, t, pos, af, gd⟩ (.int kd n) := fun ρ w hρ _ => by
  simp [execOp, hρ x _ h, convert, run_underlying hs.out, run_underlying hd.out, Conv.intToInt, hn]
theorem ev_convU {x : Operand} {ts td : TypeId} {ks k0 : IntKind} [hs : UInt P ts ks] [hd : UInt P td .u64] {z1 : Int} {n : Nat} [e1 : IsN z1 n] (h : look σ x = some (.int k0 z1)) (hn : n < 18446744073709551616) :
    Ev P σ H ⟨d, .convert ts td x, t, pos, af, gd⟩ (.int .u64 (n : Int)) := ev_conv (by rw [h, e1.out]) (wrap_u64 _ (by omega))
theorem ev_convI {x : Operand} {ts td : TypeId} {ks k0 : IntKind} [hs : UInt P ts ks] [hd : UInt P td .i64] {n : Int} (h : look σ x = some (.int k0 n)) (hn : -9223372036854775808 ≤ n ∧ n < 9223372036854775808) :
    Ev P σ H ⟨d, .convert ts td x, t, pos, af, gd⟩ (.int .i64 n) := ev_conv h (wrap_i64 _ hn)
/-- a call of a function that the model stands in for -/
theorem ev_callx {f : FuncId} {xs : List Operand} {tys : Array TypeId} {vs : List Value} {v : Value} (hx : looks σ xs = some vs) (h : ∀ w, (callFunc f vs.toArray).run P w = .ok (.value v) w) :
    Ev P σ H ⟨d, .call { callee := .value (.func f), args := xs.toArray, argTypes := tys }, t, pos, af, gd⟩ v := fun ρ w hρ _ => by
  have e := hρ.list xs vs hx
  have ef : ρ (.func f) = .func (.func f) #[] #[] := hρ (.func f) _ rfl
  simp [execOp, resolve, ef, Deferred.ofValue, invoke, e, h]
end evs

/-! ### Memory -/
def hcell (H : Array Obj) (b i : Nat) : Option Value :=
  match H[b]? with
  | some (.cells c _ _) => c[i]?
  | _ => none
theorem cell_of_hcell (w : World) (b i : Nat) : w.cell? ⟨b, i, none⟩ = hcell w.heap b i := by
  unfold World.cell? hcell
  split <;> simp_all
theorem hcell_lt {H : Array Obj} {b i : Nat} {v : Value} (h : hcell H b i = some v) : b < H.size := by
  unfold hcell at h
  rcases Nat.lt_or_ge b H.size with hb | hb
  · exact hb
  · rw [Array.getElem?_eq_none hb] at h; cases h
/-- the address of a cell of a slice -/
def elemA (A : Option Addr) (k : Nat) : Option Addr := A.map (·.add k)
theorem add_mk (b o k : Nat) : (⟨b, o, none⟩ : Addr).add k = ⟨b, o + k, none⟩ := by unfold Addr.add; split <;> simp_all
def u64v (x : Nat) : Value := .int .u64 (x : Int)
/-- a slice that reads as a list of one-cell values; it lies below block B -/
structure Sl {α : Type} (f : α → Value) (H : Array Obj) (B : Nat) (A : Option Addr) (n c : Nat) (l : List α) : Prop where
  len : l.length = n
  cap : n ≤ c
  mem : n = 0 ∨ ∃ b o, A = some ⟨b, o, none⟩ ∧ b < B ∧ ∀ j x, l[j]? = some x → hcell H b (o + j) = some (f x)
/-- a slice's words and what it reads as -/
structure SA (α : Type) where
  A : Option Addr
  n : Nat
  c : Nat
  l : List α
/-- a block known whole -/
def Bk {α : Type} (f : α → Value) (H : Array Obj) (b : Nat) (t : TypeId) (l : List α) : Prop := H[b]? = some (.cells (l.map f).toArray t (0, 0))
/-- a slice at the head of a block of its own, from block lo on; nil serves -/
def Ow {α : Type} (f : α → Value) (H : Array Obj) (lo : Nat) (t : TypeId) (A : Option Addr) (n c : Nat) (l : List α) : Prop :=
  l.length = n ∧ ((A = none ∧ n = 0 ∧ c = 0) ∨ ∃ g cur, A = some ⟨g, 0, none⟩ ∧ lo ≤ g ∧ H[g]? = some (.cells cur t (0, 0)) ∧ n ≤ c ∧ c ≤ maxLen ∧ cur.size = c ∧ cur.toList.take n = l.map f)

/-- the world has only new blocks -/
abbrev Ext (w w' : World) : Prop := Below w.heap.size w w'
/-- only block b has turned -/
structure Upd (b : Nat) (w w' : World) : Prop where
  os : w'.os = w.os
  tape : w'.tape = w.tape
  output : w'.output = w.output
  size : w'.heap.size = w.heap.size
  block : ∀ k, k ≠ b → w'.heap[k]? = w.heap[k]?

theorem Ext.refl (w : World) : Ext w w := Below.refl _ _
theorem Ext.trans {a b c : World} (h : Ext a b) (k : Ext b c) : Ext a c := Below.trans h (Below.mono k h.size)
theorem Ext.drewN {a b : World} (h : Ext a b) (n : Nat) : Ext a (b.drewN n) := ⟨h.os, h.tape, h.output, h.size, h.block⟩
theorem ext_drewN (w : World) (n : Nat) : Ext w (w.drewN n) := (Ext.refl w).drewN n
theorem Upd.below {b B : Nat} {w w' : World} (h : Upd b w w') (hb : B ≤ b) : Below B w w' := ⟨h.os, h.tape, h.output, Nat.le_of_eq h.size.symm, fun k hk => h.block k (by omega)⟩
theorem Ext.upd {b : Nat} {w w1 w2 : World} (h : Ext w w1) (hu : Upd b w1 w2) (hb : w.heap.size ≤ b) : Ext w w2 := Below.trans h (hu.below hb)
section mem
variable {α : Type} {f : α → Value} {w w' : World} {B lo n c : Nat} {A : Option Addr} {l : List α} {t : TypeId}
theorem hcell_below (h : Below B w w') {b i : Nat} (hb : b < B) : hcell w'.heap b i = hcell w.heap b i := by unfold hcell; rw [h.block b hb]
theorem Sl.below (hb : Below B w w') (h : Sl f w.heap B A n c l) : Sl f w'.heap B A n c l :=
  ⟨h.len, h.cap, h.mem.imp id fun ⟨b, o, e, hlt, hc⟩ => ⟨b, o, e, hlt, fun j x hx => (hcell_below hb hlt).trans (hc j x hx)⟩⟩
theorem Sl.ext (hb : Ext w w') (h : Sl f w.heap B A n c l) : Sl f w'.heap B A n c l :=
  ⟨h.len, h.cap, by
    rcases h.mem with h0 | ⟨b, o, e, hlt, hc⟩
    · exact .inl h0
    · rcases Nat.eq_zero_or_pos n with h0 | h0
      · exact .inl h0
      · refine .inr ⟨b, o, e, hlt, fun j x hx => (hcell_below hb ?_).trans (hc j x hx)⟩
        have hl : 0 < l.length := by have := h.len; omega
        exact hcell_lt (hc 0 l[0] (List.getElem?_eq_getElem hl))⟩
theorem Sl.mono {H : Array Obj} {B' : Nat} (h : Sl f H B A n c l) (hB : B ≤ B') : Sl f H B' A n c l :=
  ⟨h.len, h.cap, h.mem.imp id fun ⟨b, o, e, hlt, hc⟩ => ⟨b, o, e, Nat.lt_of_lt_of_le hlt hB, hc⟩⟩
theorem Sl.some {H : Array Obj} (h : Sl f H B A n c l) : n = 0 ∨ A.isSome = true := h.mem.imp id fun ⟨b, o, e, _⟩ => by rw [e]; rfl
theorem Sl.upd {b : Nat} (hu : Upd b w w') (h : Sl f w.heap B A n c l) (hb : B ≤ b) : Sl f w'.heap B A n c l := h.below (hu.below hb)
/-- it lies in the heap -/
theorem Sl.size {H : Array Obj} (h : Sl f H B A n c l) : Sl f H H.size A n c l :=
  ⟨h.len, h.cap, by
    rcases Nat.eq_zero_or_pos n with h0 | h0
    · exact .inl h0
    rcases h.mem with h1 | ⟨b, o, e, hlt, hc⟩
    · exact .inl h1
    · refine .inr ⟨b, o, e, ?_, hc⟩
      have hl : 0 < l.length := by have := h.len; omega
      exact hcell_lt (hc 0 l[0] (List.getElem?_eq_getElem hl))⟩
theorem Sl.nil (f : α → Value) (H : Array Obj) (B : Nat) (A : Option Addr) (c : Nat) : Sl f H B A 0 c [] := ⟨rfl, Nat.zero_le _, .inl rfl⟩
/-- s[:k:m], s[:k] -/
theorem Sl.take {H : Array Obj} (h : Sl f H B A n c l) {k m : Nat} (hk : k ≤ n) (hm : k ≤ m) : Sl f H B A k m (l.take k) :=
  ⟨by rw [List.length_take, h.len]; omega, hm, by
    rcases h.mem with h0 | ⟨b, o, e, hlt, hc⟩
    · exact .inl (by omega)
    · exact .inr ⟨b, o, e, hlt, fun j x hx => hc j x (by rw [List.getElem?_take] at hx; split at hx <;> first | exact hx | cases hx)⟩⟩
/-- s[k:] -/
theorem Sl.drop {H : Array Obj} (h : Sl f H B A n c l) {k m : Nat} (hk : k ≤ n) (hm : n - k ≤ m) : Sl f H B (elemA A k) (n - k) m (l.drop k) :=
  ⟨by rw [List.length_drop, h.len], hm, by
    rcases h.mem with h0 | ⟨b, o, e, hlt, hc⟩
    · exact .inl (by omega)
    · refine .inr ⟨b, o + k, by rw [e]; simp [elemA, add_mk], hlt, fun j x hx => ?_⟩
      rw [List.getElem?_drop] at hx
      have := hc (k + j) x hx
      rwa [show o + k + j = o + (k + j) by omega]⟩
/-- the address of s[k:], as the model has it: at k = cap it stays -/
def cutA (A : Option Addr) (m k : Nat) : Option Addr := if m = k then A else elemA A k
theorem Sl.dropC {H : Array Obj} (h : Sl f H B A n c l) {k m m' : Nat} (hk : k ≤ n) (hm : n ≤ m) (hm' : n - k ≤ m') : Sl f H B (cutA A m k) (n - k) m' (l.drop k) := by
  unfold cutA
  split
  · subst_vars
    have : n - m = 0 := by omega
    exact ⟨by rw [List.length_drop, h.len], hm', .inl this⟩
  · exact h.drop hk hm'

theorem Bk.lt {H : Array Obj} {b : Nat} (h : Bk f H b t l) : b < H.size := (Array.getElem?_eq_some_iff.1 h).1
theorem Bk.below {b : Nat} (hb : Below B w w') (h : Bk f w.heap b t l) (hlt : b < B) : Bk f w'.heap b t l := (hb.block b hlt).trans h
theorem Bk.ext {b : Nat} (hb : Ext w w') (h : Bk f w.heap b t l) : Bk f w'.heap b t l := h.below hb h.lt
theorem Bk.upd {b g : Nat} (hu : Upd b w w') (h : Bk f w.heap g t l) (hne : g ≠ b) : Bk f w'.heap g t l := (hu.block g hne).trans h
theorem Bk.cell {H : Array Obj} {b : Nat} (h : Bk f H b t l) (i : Nat) : hcell H b i = (l[i]?).map f := by
  unfold hcell; rw [h]; simp
theorem Bk.sl {H : Array Obj} {b : Nat} (h : Bk f H b t l) {k c : Nat} (hk : k ≤ l.length) (hc : k ≤ c) (hb : b < B) : Sl f H B (some ⟨b, 0, none⟩) k c (l.take k) :=
  ⟨by rw [List.length_take]; omega, hc, .inr ⟨b, 0, rfl, hb, fun j x hx => by
    rw [Nat.zero_add, h.cell]
    rw [List.getElem?_take] at hx
    split at hx
    · rw [hx]; rfl
    · cases hx⟩⟩
theorem Bk.slAll {H : Array Obj} {b : Nat} (h : Bk f H b t l) {c : Nat} (hc : l.length ≤ c) (hb : b < B) : Sl f H B (some ⟨b, 0, none⟩) l.length c l := by
  have := h.sl (Nat.le_refl _) hc hb
  rwa [List.take_length] at this
theorem Bk.slN {H : Array Obj} {b : Nat} (h : Bk f H b t l) {n c : Nat} (hn : l.length = n) (hc : n ≤ c) (hb : b < B) : Sl f H B (some ⟨b, 0, none⟩) n c l := by
  subst hn
  exact h.slAll hc hb
theorem Bk.ow {H : Array Obj} {b : Nat} (h : Bk f H b t l) {k c : Nat} (hk : k ≤ l.length) (hc : c = l.length) (hm : l.length ≤ maxLen) (hlo : lo ≤ b) : Ow f H lo t (some ⟨b, 0, none⟩) k c (l.take k) := by
  subst hc
  exact ⟨by rw [List.length_take]; omega, .inr ⟨b, (l.map f).toArray, rfl, hlo, h, hk, hm, by simp, by simp [List.map_take]⟩⟩
theorem Ow.sl {H : Array Obj} (h : Ow f H lo t A n c l) (hB : H.size ≤ B) : Sl f H B A n c l := by
  obtain ⟨h1, h2⟩ := h
  rcases h2 with ⟨_, h0, hc⟩ | ⟨g, cur, rfl, _, hg, hnc, _, hcs, ht⟩
  · subst h0; exact ⟨h1, by omega, .inl rfl⟩
  · refine ⟨h1, hnc, .inr ⟨g, 0, rfl, Nat.lt_of_lt_of_le (Array.getElem?_eq_some_iff.1 hg).1 hB, fun j x hx => ?_⟩⟩
    unfold hcell
    rw [hg, Nat.zero_add]
    have hj : j < n := by rw [← h1]; exact (List.getElem?_eq_some_iff.1 hx).1
    have e := congrArg (fun q => q[j]?) ht
    simp only [List.getElem?_take, if_pos hj, List.getElem?_map, hx, Option.map_some] at e
    simpa using e
theorem Ow.ext (hb : Ext w w') (h : Ow f w.heap lo t A n c l) : Ow f w'.heap lo t A n c l := by
  obtain ⟨h1, h2⟩ := h
  refine ⟨h1, h2.imp id ?_⟩
  rintro ⟨g, cur, e, hlo, hg, r⟩
  exact ⟨g, cur, e, hlo, (hb.block g (Array.getElem?_eq_some_iff.1 hg).1).trans hg, r⟩
theorem Ow.nil (f : α → Value) (H : Array Obj) (lo : Nat) (t : TypeId) : Ow f H lo t none 0 0 [] := ⟨rfl, .inl ⟨rfl, rfl, rfl⟩⟩
theorem Ow.mono {H : Array Obj} {lo' : Nat} (h : Ow f H lo t A n c l) (hl : lo' ≤ lo) : Ow f H lo' t A n c l := by
  obtain ⟨h1, h2⟩ := h
  refine ⟨h1, h2.imp id ?_⟩
  rintro ⟨g, cur, e, hlo, r⟩
  exact ⟨g, cur, e, by omega, r⟩
theorem Ow.len {H : Array Obj} (h : Ow f H lo t A n c l) : l.length = n := h.1
theorem Ow.cap {H : Array Obj} (h : Ow f H lo t A n c l) : n ≤ c := by
  rcases h.2 with ⟨_, h0, hc⟩ | ⟨g, cur, _, _, _, h, _⟩ <;> omega
/-- s[:k] of a slice of its own -/
theorem Ow.take {H : Array Obj} (h : Ow f H lo t A n c l) {k : Nat} (hk : k ≤ n) : Ow f H lo t A k c (l.take k) := by
  refine ⟨by rw [List.length_take, h.1]; omega, ?_⟩
  rcases h.2 with ⟨e, h0, hc⟩ | ⟨g, cur, e, hlo, hg, hnc, hm, hs, ht⟩
  · exact .inl ⟨e, by omega, hc⟩
  · refine .inr ⟨g, cur, e, hlo, hg, by omega, hm, hs, ?_⟩
    rw [List.map_take, ← ht, List.take_take, Nat.min_eq_left hk]
theorem ow_ownsRow (h : Ow f w.heap lo t A n c l) : w.ownsRow lo t 1 (.slice A n c) n (l.map f) := by
  obtain ⟨h1, h2⟩ := h
  refine ⟨by simp [h1], ?_⟩
  rcases h2 with ⟨rfl, rfl, rfl⟩ | ⟨g, cur, rfl, r1, r2, r3, r4, r5, r6⟩
  · exact .inl ⟨rfl, rfl⟩
  · exact .inr ⟨g, c, cur, rfl, r1, r2, r3, r4, by omega, by rw [Nat.mul_one]; exact r6⟩
theorem ownsRow_ow {v : Value} (h : w.ownsRow lo t 1 v n (l.map f)) : ∃ A c, v = .slice A n c ∧ Ow f w.heap lo t A n c l := by
  obtain ⟨h1, h2⟩ := h
  have h1' : l.length = n := by simpa using h1
  rcases h2 with ⟨rfl, rfl⟩ | ⟨g, cap, cur, rfl, r1, r2, r3, r4, r5, r6⟩
  · exact ⟨none, 0, rfl, h1', .inl ⟨rfl, rfl, rfl⟩⟩
  · exact ⟨_, cap, rfl, h1', .inr ⟨g, cur, rfl, r1, r2, r3, r4, by omega, by rw [← r6, Nat.mul_one]⟩⟩
end mem

/-! ### Reading memory -/
section reads
variable {P : Program} {σ : Store} {H : Array Obj} {d : Option Tmp} {t : TypeId} {pos : String} {af : Array Edge} {gd : Option (Nat × Bool)}

theorem ev_index {x i : Operand} {ty e : TypeId} [hT : USlice P ty e] {z : Value} {b1 : Nat} [hS : USize P e z 1 b1] {A : Option Addr} {n c : Nat} {k : IntKind} {m : Int}
    (hx : look σ x = some (.slice A n c)) (hi : look σ i = some (.int k m)) (h : 0 ≤ m ∧ m < n) (hA : n = 0 ∨ A.isSome = true) : Ev P σ H ⟨d, .indexAddr ty x i, t, pos, af, gd⟩ (.pointer (elemA A m.toNat)) := fun ρ w hρ _ => by
  obtain ⟨ii, hii, _, hsz, _⟩ := hS.info
  have hA' : A.isSome = true := hA.resolve_left (by omega)
  cases A with
  | none => simp at hA'
  | some a => simp [execOp, hρ x _ hx, hρ i _ hi, Instr.indexAt, asIntOf, run_underlying hT.out, h, sizeOf, typeInfo, hii, hsz, elemA]
theorem ev_indexN {x i : Operand} {ty e : TypeId} [hT : USlice P ty e] {z : Value} {b1 : Nat} [hS : USize P e z 1 b1] {A : Option Addr} {n c : Nat} {k : IntKind} {z0 : Int} {m : Nat} [e0 : IsN z0 m]
    (hx : look σ x = some (.slice A n c)) (hi : look σ i = some (.int k z0)) (h : m < n) (hA : n = 0 ∨ A.isSome = true) : Ev P σ H ⟨d, .indexAddr ty x i, t, pos, af, gd⟩ (.pointer (elemA A m)) := by
  have := ev_index (P := P) (ty := ty) (e := e) (z := z) (b1 := b1) (d := d) (t := t) (pos := pos) (af := af) (gd := gd) (H := H) (m := (m : Int)) hx (by rw [hi, e0.out]) (by omega) hA
  rwa [Int.toNat_natCast] at this
theorem run_isAgg_one {P : Program} {t : TypeId} (h : UOne P t) (w : World) : (isAgg t).run P w = .ok false w := by
  obtain ⟨d, hd, hk⟩ := h.out
  unfold isAgg
  rw [Sem.run_bind, run_underlying hd]
  cases d <;> simp_all
theorem ev_load {x : Operand} {ty : TypeId} [hO : UOne P ty] {b i : Nat} {v : Value} (hx : look σ x = some (.pointer (some ⟨b, i, none⟩))) (hv : hcell H b i = some v) :
    Ev P σ H ⟨d, .load ty x, t, pos, af, gd⟩ v := fun ρ w hρ hH => by
  have hc : w.cell? ⟨b, i, none⟩ = some v := by rw [cell_of_hcell, hH, hv]
  simp [execOp, hρ x _ hx, Instr.loadAt, Instr.sureAddr, loadVar, run_isAgg_one hO, hc]
theorem ev_loadSl {x : Operand} {ty : TypeId} [hO : UOne P ty] {α : Type} {f : α → Value} {B n c k : Nat} {A : Option Addr} {l : List α} {y : α}
    (hx : look σ x = some (.pointer (elemA A k))) (hs : Sl f H B A n c l) (hy : l[k]? = some y) : Ev P σ H ⟨d, .load ty x, t, pos, af, gd⟩ (f y) := by
  rcases hs.mem with h0 | ⟨b, o, rfl, _, hc⟩
  · exfalso
    have h1 := (List.getElem?_eq_some_iff.1 hy).1
    have h2 := hs.len
    omega
  · exact ev_load (b := b) (i := o + k) (by rw [hx]; simp [elemA, add_mk]) (hc k y hy)
theorem getD_some {α : Type} {l : List α} {k : Nat} (z : α) (h : k < l.length) : l[k]? = some (l.getD k z) := by
  simp [List.getD, h]
theorem ev_loadU {x : Operand} {ty : TypeId} [hO : UOne P ty] {B n c k : Nat} {A : Option Addr} {l : List Nat}
    (hx : look σ x = some (.pointer (elemA A k))) (hs : Sl u64v H B A n c l) (hk : k < n) : Ev P σ H ⟨d, .load ty x, t, pos, af, gd⟩ (.int .u64 ((l.getD k 0 : Nat) : Int)) :=
  ev_loadSl (f := u64v) hx hs (getD_some 0 (by rw [hs.len]; exact hk))
/-- slices of slices (the operand's element may have any number of cells: sz) -/
theorem run_slice_gen {P : Program} {w : World} {ty e : TypeId} [hT : USlice P ty e] {z : Value} {sz b1 : Nat} [hS : USize P e z sz b1] {A : Option Addr} {n c : Nat} {lo hi mx : Option Value} {l h m : Nat}
    (hb : (Instr.sliceBounds true n c lo hi mx).run P w = .ok (l, h, m) w) : (Instr.sliceAt ty (.slice A n c) lo hi mx).run P w = .ok (.slice (if m = l then A else A.map (·.add (l * sz))) (h - l) (m - l)) w := by
  obtain ⟨ii, hii, _, hsz, _⟩ := hS.info
  simp [Instr.sliceAt, Instr.slice, run_underlying hT.out, hb, sizeOf, typeInfo, hii, hsz]
theorem run_bound {P : Program} {w : World} {k : IntKind} {m y : Nat} {code : BoundsCode} (h : m ≤ y) : (Instr.sliceBound (.int k (m : Int)) y code).run P w = .ok m w := by
  have h1 : (0 : Int) ≤ m ∧ (m : Int) ≤ y := by omega
  simp [Instr.sliceBound, asIntOf, h1]
variable {x : Operand} {A : Option Addr} {n c : Nat}
theorem ev_sl_h {ty e : TypeId} [hT : USlice P ty e] {z : Value} {b1 : Nat} [hS : USize P e z 1 b1] {y : Operand} {k : IntKind} {z1 : Int} {h : Nat} [e1 : IsN z1 h] (hx : look σ x = some (.slice A n c)) (hy : look σ y = some (.int k z1)) (hh : h ≤ c) :
    Ev P σ H ⟨d, .slice ty x none (some y) none, t, pos, af, gd⟩ (.slice A h c) := fun ρ w hρ _ => by
  obtain rfl := e1.out
  have hb : (Instr.sliceBounds true n c none (some (.int k (h : Int))) none).run P w = .ok (0, h, c) w := by simp [Instr.sliceBounds, run_bound hh]
  have e0 : (if c = 0 then A else A.map (·.add (0 * 1))) = A := by
    split
    · rfl
    · cases A <;> simp [Addr.add]
  simp only [execOp, hρ x _ hx, hρ y _ hy, Option.map_none, Option.map_some, Sem.run_bind, run_slice_gen (ty := ty) (e := e) (A := A) hb, Result.andThen_ok, Sem.run_pure, e0, Nat.sub_zero]
theorem ev_sl_hm {ty e : TypeId} [hT : USlice P ty e] {z : Value} {b1 : Nat} [hS : USize P e z 1 b1] {y u : Operand} {k k' : IntKind} {z1 z2 : Int} {h m : Nat} [e1 : IsN z1 h] [e2 : IsN z2 m] (hx : look σ x = some (.slice A n c)) (hy : look σ y = some (.int k z1)) (hu : look σ u = some (.int k' z2)) (hh : h ≤ m) (hm : m ≤ c) :
    Ev P σ H ⟨d, .slice ty x none (some y) (some u), t, pos, af, gd⟩ (.slice A h m) := fun ρ w hρ _ => by
  obtain rfl := e1.out
  obtain rfl := e2.out
  have hb : (Instr.sliceBounds true n c none (some (.int k (h : Int))) (some (.int k' (m : Int)))).run P w = .ok (0, h, m) w := by simp [Instr.sliceBounds, run_bound hh, run_bound hm]
  have e0 : (if m = 0 then A else A.map (·.add (0 * 1))) = A := by
    split
    · rfl
    · cases A <;> simp [Addr.add]
  simp only [execOp, hρ x _ hx, hρ y _ hy, hρ u _ hu, Option.map_none, Option.map_some, Sem.run_bind, run_slice_gen (ty := ty) (e := e) (A := A) hb, Result.andThen_ok, Sem.run_pure, e0, Nat.sub_zero]
theorem ev_sl_l {ty e : TypeId} [hT : USlice P ty e] {z : Value} {b1 : Nat} [hS : USize P e z 1 b1] {y : Operand} {k : IntKind} {z1 : Int} {l : Nat} [e1 : IsN z1 l] (hx : look σ x = some (.slice A n c)) (hy : look σ y = some (.int k z1)) (hl : l ≤ n) (hn : n ≤ c) :
    Ev P σ H ⟨d, .slice ty x (some y) none none, t, pos, af, gd⟩ (.slice (cutA A c l) (n - l) (c - l)) := fun ρ w hρ _ => by
  obtain rfl := e1.out
  have hb : (Instr.sliceBounds true n c (some (.int k (l : Int))) none none).run P w = .ok (l, n, c) w := by simp [Instr.sliceBounds, run_bound hl]
  simp only [execOp, hρ x _ hx, hρ y _ hy, Option.map_none, Option.map_some, Sem.run_bind, run_slice_gen (ty := ty) (e := e) (A := A) hb, Result.andThen_ok, Sem.run_pure, cutA, elemA, Nat.mul_one]
theorem ev_sl_lh {ty e : TypeId} [hT : USlice P ty e] {z : Value} {b1 : Nat} [hS : USize P e z 1 b1] {y u : Operand} {k k' : IntKind} {z1 z2 : Int} {l h : Nat} [e1 : IsN z1 l] [e2 : IsN z2 h] (hx : look σ x = some (.slice A n c)) (hy : look σ y = some (.int k z1)) (hu : look σ u = some (.int k' z2)) (hl : l ≤ h) (hn : h ≤ c) :
    Ev P σ H ⟨d, .slice ty x (some y) (some u) none, t, pos, af, gd⟩ (.slice (cutA A c l) (h - l) (c - l)) := fun ρ w hρ _ => by
  obtain rfl := e1.out
  obtain rfl := e2.out
  have hb : (Instr.sliceBounds true n c (some (.int k (l : Int))) (some (.int k' (h : Int))) none).run P w = .ok (l, h, c) w := by simp [Instr.sliceBounds, run_bound hl, run_bound hn]
  simp only [execOp, hρ x _ hx, hρ y _ hy, hρ u _ hu, Option.map_none, Option.map_some, Sem.run_bind, run_slice_gen (ty := ty) (e := e) (A := A) hb, Result.andThen_ok, Sem.run_pure, cutA, elemA, Nat.mul_one]
theorem ev_sl_lhm {ty e : TypeId} [hT : USlice P ty e] {z : Value} {b1 : Nat} [hS : USize P e z 1 b1] {y u v : Operand} {k k' k'' : IntKind} {z1 z2 z3 : Int} {l h m : Nat} [e1 : IsN z1 l] [e2 : IsN z2 h] [e3 : IsN z3 m] (hx : look σ x = some (.slice A n c)) (hy : look σ y = some (.int k z1)) (hu : look σ u = some (.int k' z2)) (hv : look σ v = some (.int k'' z3))
    (hl : l ≤ h) (hn : h ≤ m) (hm : m ≤ c) : Ev P σ H ⟨d, .slice ty x (some y) (some u) (some v), t, pos, af, gd⟩ (.slice (cutA A m l) (h - l) (m - l)) := fun ρ w hρ _ => by
  obtain rfl := e1.out
  obtain rfl := e2.out
  obtain rfl := e3.out
  have hb : (Instr.sliceBounds true n c (some (.int k (l : Int))) (some (.int k' (h : Int))) (some (.int k'' (m : Int)))).run P w = .ok (l, h, m) w := by simp [Instr.sliceBounds, run_bound hl, run_bound hn, run_bound hm]
  simp only [execOp, hρ x _ hx, hρ y _ hy, hρ u _ hu, hρ v _ hv, Option.map_some, Sem.run_bind, run_slice_gen (ty := ty) (e := e) (A := A) hb, Result.andThen_ok, Sem.run_pure, cutA, elemA, Nat.mul_one]
end reads

/-! ### Several operations in one rule -/
def simple (σ : Store) : Op → Option Value
  | .move x => look σ x
  | .assign x => look σ x
  | .pick c a b => match look σ c with
    | some (.bool true) => look σ a
    | some (.bool false) => look σ b
    | _ => none
  | .extract x i => match look σ x with
    | some (.tuple vs) => nthV vs.toList i
    | _ => none
  | .unOp .not _ x => match look σ x with
    | some (.bool true) => some (.bool false)
    | some (.bool false) => some (.bool true)
    | _ => none
  | _ => none
section several
variable {P : Program} {σ : Store} {H : Array Obj} {d : Option Tmp} {t : TypeId} {pos : String} {af : Array Edge} {gd : Option (Nat × Bool)}
theorem ev_simple {op : Op} {v : Value} (h : simple σ op = some v) : Ev P σ H ⟨d, op, t, pos, af, gd⟩ v := by
  unfold simple at h
  split at h
  · exact ev_move h
  · exact ev_assign h
  · split at h
    · rename_i hc; exact ev_pick_t hc h
    · rename_i hc; exact ev_pick_f hc h
    · cases h
  · split at h
    · rename_i vs hc
      exact ev_extract (vs := vs.toList) (by simpa using hc) h
    · cases h
  · split at h
    · rename_i hc; cases h; exact ev_not_t hc
    · rename_i hc; cases h; exact ev_not_f hc
    · cases h
  · cases h
/-- int64 from 0 on: the result and what it asks -/
def arN : BinOp → Nat → Nat → Option (Nat × Prop)
  | .add, m, n => some (m + n, m + n < 9223372036854775808)
  | .sub, m, n => some (m - n, n ≤ m ∧ m < 9223372036854775808)
  | .mul, m, n => some (m * n, m * n < 9223372036854775808)
  | .quo, m, n => some (m / n, 0 < n ∧ m < 9223372036854775808)
  | .rem, m, n => some (m % n, 0 < n)
  | _, _, _ => none
theorem ev_arN {op : BinOp} {x y : Operand} {tx ty : TypeId} {z1 z2 : Int} {m n r : Nat} {c : Prop} [e1 : IsN z1 m] [e2 : IsN z2 n] (hx : look σ x = some (.int .i64 z1)) (hy : look σ y = some (.int .i64 z2))
    (h : arN op m n = some (r, c)) (hc : c) : Ev P σ H ⟨d, .binOp op tx x y ty, t, pos, af, gd⟩ (.int .i64 (r : Int)) := by
  unfold arN at h
  split at h <;> first | cases h; done | skip
  all_goals (cases h)
  · exact ev_addN hx hy hc
  · exact ev_subN hx hy hc
  · exact ev_mulN hx hy hc
  · exact ev_quoN hx hy hc
  · exact ev_remN hx hy hc
/-- int64 -/
def arI : BinOp → Int → Int → Option Int
  | .add, m, n => some (m + n)
  | .sub, m, n => some (m - n)
  | .mul, m, n => some (m * n)
  | _, _, _ => none
theorem ev_arI {op : BinOp} {x y : Operand} {tx ty : TypeId} {m n r : Int} (hx : look σ x = some (.int .i64 m)) (hy : look σ y = some (.int .i64 n))
    (h : arI op m n = some r) (hc : -9223372036854775808 ≤ r ∧ r < 9223372036854775808) : Ev P σ H ⟨d, .binOp op tx x y ty, t, pos, af, gd⟩ (.int .i64 r) := by
  unfold arI at h
  split at h <;> first | cases h; done | skip
  all_goals (cases h)
  · exact ev_add hx hy hc
  · exact ev_sub hx hy hc
  · exact ev_mul hx hy hc
/-- uint64 -/
def arU : BinOp → Nat → Nat → Option (Nat × Prop)
  | .add, m, n => some ((m + n) % 18446744073709551616, True)
  | .mul, m, n => some ((m * n) % 18446744073709551616, True)
  | .quo, m, n => some (m / n, 0 < n ∧ m < 18446744073709551616)
  | .rem, m, n => some (m % n, 0 < n)
  | _, _, _ => none
theorem ev_arU {op : BinOp} {x y : Operand} {tx ty : TypeId} {z1 z2 : Int} {m n r : Nat} {c : Prop} [e1 : IsN z1 m] [e2 : IsN z2 n] (hx : look σ x = some (.int .u64 z1)) (hy : look σ y = some (.int .u64 z2))
    (h : arU op m n = some (r, c)) (hc : c) : Ev P σ H ⟨d, .binOp op tx x y ty, t, pos, af, gd⟩ (.int .u64 (r : Int)) := by
  unfold arU at h
  split at h <;> first | cases h; done | skip
  all_goals (cases h)
  · exact ev_addU hx hy
  · exact ev_mulU hx hy
  · exact ev_quoU hx hy hc
  · exact ev_remU hx hy hc
def cmpP : BinOp → Int → Int → Option Prop
  | .lss, m, n => some (m < n)
  | .leq, m, n => some (m ≤ n)
  | .gtr, m, n => some (n < m)
  | .geq, m, n => some (n ≤ m)
  | .eql, m, n => some (m = n)
  | .neq, m, n => some (¬ m = n)
  | _, _, _ => none
end several

/-! ### Comparisons that part the walk -/
section cmps
variable {P : Program} {N : Fm} {Q : Exit → Act → World → Prop} {σ : Store} {w : World} {q : Md} {ops : Array Oper} {d : Nat} {t : TypeId} {pos : String} {af : Array Edge} {rest : List Oper}
theorem TL.cmp {op : Op} (p : Prop) (ht : p → Ev P σ w.heap ⟨some d, op, t, pos, af, none⟩ (.bool true)) (hf : ¬ p → Ev P σ w.heap ⟨some d, op, t, pos, af, none⟩ (.bool false)) (hd : Nat.blt d N.n = true)
    (k1 : p → TL P N q ops Q rest ((d, .bool true) :: σ) w) (k0 : ¬ p → TL P N q ops Q rest ((d, .bool false) :: σ) w) : TL P N q ops Q (⟨some d, op, t, pos, af, none⟩ :: rest) σ w := by
  by_cases h : p
  · exact TL.ev (ht h) hd (k1 h)
  · exact TL.ev (hf h) hd (k0 h)
variable {x y : Operand} {tx ty : TypeId} {k : IntKind} {m n : Int}
theorem TL.lss (hx : look σ x = some (.int k m)) (hy : look σ y = some (.int k n)) (hd : Nat.blt d N.n = true)
    (k1 : m < n → TL P N q ops Q rest ((d, .bool true) :: σ) w) (k0 : ¬ m < n → TL P N q ops Q rest ((d, .bool false) :: σ) w) : TL P N q ops Q (⟨some d, .binOp .lss tx x y ty, t, pos, af, none⟩ :: rest) σ w :=
  TL.cmp _ (fun h => ev_lss hx hy (decide_eq_true h)) (fun h => ev_lss hx hy (decide_eq_false h)) hd k1 k0
theorem TL.leq (hx : look σ x = some (.int k m)) (hy : look σ y = some (.int k n)) (hd : Nat.blt d N.n = true)
    (k1 : m ≤ n → TL P N q ops Q rest ((d, .bool true) :: σ) w) (k0 : ¬ m ≤ n → TL P N q ops Q rest ((d, .bool false) :: σ) w) : TL P N q ops Q (⟨some d, .binOp .leq tx x y ty, t, pos, af, none⟩ :: rest) σ w :=
  TL.cmp _ (fun h => ev_leq hx hy (decide_eq_true h)) (fun h => ev_leq hx hy (decide_eq_false h)) hd k1 k0
theorem TL.gtr (hx : look σ x = some (.int k m)) (hy : look σ y = some (.int k n)) (hd : Nat.blt d N.n = true)
    (k1 : n < m → TL P N q ops Q rest ((d, .bool true) :: σ) w) (k0 : ¬ n < m → TL P N q ops Q rest ((d, .bool false) :: σ) w) : TL P N q ops Q (⟨some d, .binOp .gtr tx x y ty, t, pos, af, none⟩ :: rest) σ w :=
  TL.cmp _ (fun h => ev_gtr hx hy (decide_eq_true h)) (fun h => ev_gtr hx hy (decide_eq_false h)) hd k1 k0
theorem TL.geq (hx : look σ x = some (.int k m)) (hy : look σ y = some (.int k n)) (hd : Nat.blt d N.n = true)
    (k1 : n ≤ m → TL P N q ops Q rest ((d, .bool true) :: σ) w) (k0 : ¬ n ≤ m → TL P N q ops Q rest ((d, .bool false) :: σ) w) : TL P N q ops Q (⟨some d, .binOp .geq tx x y ty, t, pos, af, none⟩ :: rest) σ w :=
  TL.cmp _ (fun h => ev_geq hx hy (decide_eq_true h)) (fun h => ev_geq hx hy (decide_eq_false h)) hd k1 k0
theorem TL.eql (hx : look σ x = some (.int k m)) (hy : look σ y = some (.int k n)) (hd : Nat.blt d N.n = true)
    (k1 : m = n → TL P N q ops Q rest ((d, .bool true) :: σ) w) (k0 : ¬ m = n → TL P N q ops Q rest ((d, .bool false) :: σ) w) : TL P N q ops Q (⟨some d, .binOp .eql tx x y ty, t, pos, af, none⟩ :: rest) σ w :=
  TL.cmp _ (fun h => ev_eql hx hy (decide_eq_true h)) (fun h => ev_eql hx hy (decide_eq_false h)) hd k1 k0
theorem TL.neq (hx : look σ x = some (.int k m)) (hy : look σ y = some (.int k n)) (hd : Nat.blt d N.n = true)
    (k1 : ¬ m = n → TL P N q ops Q rest ((d, .bool true) :: σ) w) (k0 : m = n → TL P N q ops Q rest ((d, .bool false) :: σ) w) : TL P N q ops Q (⟨some d, .binOp .neq tx x y ty, t, pos, af, none⟩ :: rest) σ w :=
  TL.cmp (¬ m = n) (fun h => ev_neq hx hy (by simp [h])) (fun h => ev_neq hx hy (by simpa using h)) hd k1 (fun h => k0 (by simpa using h))
theorem TL.cmpG {op : BinOp} {p : Prop} (hx : look σ x = some (.int k m)) (hy : look σ y = some (.int k n)) (hp : cmpP op m n = some p) (hd : Nat.blt d N.n = true)
    (k1 : p → TL P N q ops Q rest ((d, .bool true) :: σ) w) (k0 : ¬ p → TL P N q ops Q rest ((d, .bool false) :: σ) w) : TL P N q ops Q (⟨some d, .binOp op tx x y ty, t, pos, af, none⟩ :: rest) σ w := by
  unfold cmpP at hp
  split at hp <;> first | cases hp; done | skip
  all_goals (cases hp)
  · exact TL.lss hx hy hd k1 k0
  · exact TL.leq hx hy hd k1 k0
  · exact TL.gtr hx hy hd k1 k0
  · exact TL.geq hx hy hd k1 k0
  · exact TL.eql hx hy hd k1 k0
  · exact TL.neq hx hy hd k1 (fun h => k0 (fun hn => hn h))
end cmps

/-! ### Calls, entry and return -/
section calls
variable {P : Program} {N : Fm} {Q : Exit → Act → World → Prop} {σ : Store} {w : World} {ops : Array Oper} {d : Nat} {t : TypeId} {pos : String} {af : Array Edge} {rest : List Oper}
theorem run_callFunc_enter {f : FuncId} (h : IsFn P f) (args : Array Value) (w : World) : (callFunc f args).run P w = .ok (.enter f args) w := by
  obtain ⟨fn, hf, hn, hb⟩ := h.out
  have h1 : fn.name ≠ "runtime.NumGoroutine" := by simpa using hn
  obtain ⟨c, hc⟩ : ∃ c, fn.body = some c := by
    cases h : fn.body with
    | none => rw [h] at hb; simp at hb
    | some c => exact ⟨c, rfl⟩
  simp [callFunc, hf, h1, hc]
theorem exec_call {ρ : Operand → Value} {f : FuncId} {xs : List Operand} {tys : Array TypeId} {vs : List Value} {dd : Option Tmp} {gd : Option (Nat × Bool)} (hρ : Agree σ ρ) (hx : looks σ xs = some vs) (hf : IsFn P f) (w : World) :
    (execOp ρ ⟨dd, .call { callee := .value (.func f), args := xs.toArray, argTypes := tys }, t, pos, af, gd⟩).run P w = .ok (.enter f vs.toArray) w := by
  have e := hρ.list xs vs hx
  have ef : ρ (.func f) = .func (.func f) #[] #[] := hρ (.func f) _ rfl
  simp [execOp, resolve, ef, Deferred.ofValue, invoke, e, run_callFunc_enter hf]
/-- a contract of a call; closed to unification -/
def Cl (P : Program) (f : FuncId) (args : Array Value) (w : World) (R : Ending → World → Prop) : Prop := Calls P f args w R
theorem Cl.of {f : FuncId} {args : Array Value} {R : Ending → World → Prop} (h : Calls P f args w R) : Cl P f args w R := h
theorem Cl.out {f : FuncId} {args : Array Value} {R : Ending → World → Prop} (h : Cl P f args w R) : Calls P f args w R := h
theorem Cl.mono {f : FuncId} {args : Array Value} {R R' : Ending → World → Prop} (h : Cl P f args w R) (hr : ∀ e w', R e w' → R' e w') : Cl P f args w R' := Calls.mono h hr
/-- what is asked behind a call -/
def Back (P : Program) (N : Fm) (ops : Array Oper) (Q : Exit → Act → World → Prop) (rest : List Oper) (d : Nat) (σ : Store) (e : Ending) (w' : World) : Prop :=
  ∃ v, e = .returned v ∧ TL P N .seq ops Q rest ((d, v) :: σ) w'
theorem Back.mk {v : Value} {w' : World} (h : TL P N .seq ops Q rest ((d, v) :: σ) w') : Back P N ops Q rest d σ (.returned v) w' := ⟨v, rfl, h⟩
theorem TL.call {f : FuncId} {xs : List Operand} {tys : Array TypeId} {vs : List Value} [hf : IsFn P f] (hx : looks σ xs = some vs) (hd : Nat.blt d N.n = true)
    (k : Cl P f vs.toArray w (Back P N ops Q rest d σ)) :
    TL P N .seq ops Q (⟨some d, .call { callee := .value (.func f), args := xs.toArray, argTypes := tys }, t, pos, af, none⟩ :: rest) σ w := by
  intro a ha
  refine wpList_plain rfl fun K hK => ?_
  unfold Oper.wp
  rw [exec_call ha.agree hx hf]
  refine Calls.mono k.out ?_
  rintro e w' ⟨v, rfl, hk⟩
  exact hK _ _ (hk _ (ha.put hd v))
/-- but for draws the world is as it was -/
def Qt (w w' : World) : Prop := ∃ n, w' = w.drewN n
theorem Qt.refl (w : World) : Qt w w := ⟨0, rfl⟩
theorem Qt.drewN {w w' : World} (h : Qt w w') (n : Nat) : Qt w (w'.drewN n) := by
  obtain ⟨m, rfl⟩ := h
  exact ⟨m + n, by simp [World.drewN, Nat.add_assoc]⟩
theorem Qt.ext {w w' : World} (h : Qt w w') : Ext w w' := by obtain ⟨m, rfl⟩ := h; exact ext_drewN w m
/-- a function that only looks at the heap and answers v -/
def Pure (P : Program) (f : FuncId) (args : Array Value) (H : Array Obj) (v : Value) : Prop := ∀ w, w.heap = H → Cl P f args w fun e w' => e = .returned v ∧ Qt w w'
theorem TL.callP {f : FuncId} {xs : List Operand} {tys : Array TypeId} {vs : List Value} {v : Value} [hf : IsFn P f] (hx : looks σ xs = some vs) (hd : Nat.blt d N.n = true) (h : Pure P f vs.toArray w.heap v)
    (k : ∀ n, TL P N .seq ops Q rest ((d, v) :: σ) (w.drewN n)) :
    TL P N .seq ops Q (⟨some d, .call { callee := .value (.func f), args := xs.toArray, argTypes := tys }, t, pos, af, none⟩ :: rest) σ w :=
  TL.call hx hd ((h w rfl).mono fun e w' ⟨he, n, hw⟩ => by subst he hw; exact ⟨v, rfl, k n⟩)
theorem Pure.of {f : FuncId} {args : Array Value} {H : Array Obj} {v : Value} (h : ∀ w, w.heap = H → Cl P f args w fun e w' => e = .returned v ∧ Qt w w') : Pure P f args H v := h

theorem Pure.cl {f : FuncId} {args : Array Value} {v : Value} (h : Pure P f args w.heap v) : Cl P f args w fun e w' => e = .returned v ∧ Qt w w' := h w rfl

def argStore : Nat → List Value → Store
  | _, [] => []
  | i, v :: vs => (i, v) :: argStore (i + 1) vs
theorem look_argStore : ∀ (vs : List Value) (i j : Nat) (v : Value), look1 (argStore i vs) j = some v → i ≤ j ∧ vs[j - i]? = some v
  | [], i, j, v, h => by simp [argStore, look1] at h
  | u :: vs, i, j, v, h => by
    simp only [argStore, look1] at h
    cases hb : Nat.beq i j with
    | true =>
      have := Nat.eq_of_beq_eq_true hb
      subst this
      rw [hb] at h
      simp at h
      simp [h]
    | false =>
      rw [hb] at h
      obtain ⟨h1, h2⟩ := look_argStore vs (i + 1) j v h
      refine ⟨by omega, ?_⟩
      rw [show j - i = (j - (i + 1)) + 1 by omega, List.getElem?_cons_succ]
      exact h2
theorem enter {f : FuncId} {fn : Func} {c : Code} {vs : List Value} {R : Ending → World → Prop} (hf : P.funcs[f]? = some fn) (hb : fn.body = some c) {n : Nat} (hn : fn.ntmps = n) (hl : Nat.ble vs.length n = true)
    (h : T P ⟨n, []⟩ c (bodyPost P fn R) (argStore 0 vs) w) : Cl P f vs.toArray w R := by
  refine Cl.of (calls_of_wp hf hb (h _ ⟨?_, rfl, fun i v hv => ?_⟩))
  · have := Nat.le_of_ble_eq_true hl
    simp [hn]; omega
  · obtain ⟨_, h2⟩ := look_argStore vs 0 i v hv
    rw [Nat.sub_zero] at h2
    have hi := (List.getElem?_eq_some_iff.1 h2).1
    simp only [Array.getD_eq_getD_getElem?]
    rw [Array.getElem?_append_left (by simpa using hi)]
    simp [h2]
variable {fn : Func} {R : Ending → World → Prop}
theorem G.ret1 {n : Nat} {r : Nat} {v : Value} (hr : fn.results = #[.tmp r]) (hv : look1 σ r = some v) (h : R (.returned v) w) : G ⟨n, []⟩ .ret (bodyPost P fn R) σ w := fun a ha =>
  bodyPost_ret (results_tmp hr _ _ _) ha.nodef (by rw [ha.get r v hv]; exact h)
theorem G.ret2 {n : Nat} {r s : Nat} {v u : Value} (hr : fn.results = #[.tmp r, .tmp s]) (hv : look1 σ r = some v) (hu : look1 σ s = some u) (h : R (.returned (.tuple #[v, u])) w) : G ⟨n, []⟩ .ret (bodyPost P fn R) σ w := fun a ha =>
  bodyPost_ret (results_tmp2 hr _ _ _) ha.nodef (by rw [ha.get r v hv, ha.get s u hu]; exact h)
theorem results_tmp3' {fn : Func} {t u v : Tmp} (h : fn.results = #[.tmp t, .tmp u, .tmp v]) (tmps : Array Value) (P : Program) (w : World) :
    (results fn tmps).run P w = .ok (.tuple #[tmps.getD t undef, tmps.getD u undef, tmps.getD v undef]) w := by simp [results, h]
theorem G.ret3 {n : Nat} {r s p : Nat} {v u x : Value} (hr : fn.results = #[.tmp r, .tmp s, .tmp p]) (hv : look1 σ r = some v) (hu : look1 σ s = some u) (hx : look1 σ p = some x) (h : R (.returned (.tuple #[v, u, x])) w) : G ⟨n, []⟩ .ret (bodyPost P fn R) σ w := fun a ha =>
  bodyPost_ret (results_tmp3' hr _ _ _) ha.nodef (by rw [ha.get r v hv, ha.get s u hu, ha.get p x hx]; exact h)
theorem G.ret0 {n : Nat} (hr : fn.results = #[]) (h : R (.returned (.tuple #[])) w) : G ⟨n, []⟩ .ret (bodyPost P fn R) σ w := fun a ha =>
  bodyPost_ret (results_none hr _ _ _) ha.nodef h
theorem G.end0 {n : Nat} (hr : fn.results = #[]) (h : R (.returned (.tuple #[])) w) : G ⟨n, []⟩ .normal (bodyPost P fn R) σ w := fun a ha =>
  bodyPost_end (results_none hr _ _ _) ha.nodef h
/-- the round is over: the next x -/
theorem G.again {α : Type} {st : α → Store} {I : α → World → Prop} {μ : α → Nat} {m : Nat} (x' : α) (hs : Sub (st x') σ) (hI : I x' w) (hμ : μ x' < m) :
    G N .normal (Exit.then (fun a' w' => ∃ x', Rep N (st x') a' ∧ I x' w' ∧ μ x' < m) Q) σ w := fun a ha => ⟨x', ha.sub hs, hI, hμ⟩
/-- a cut: c leads to some x with 'I x', and from there on -/
theorem T.cut {α : Type} {c y : Code} (st : α → Store) (I : α → World → Prop) (h : T P N c (Exit.then (fun a' w' => ∃ x, Rep N (st x) a' ∧ I x w') Q) σ w)
    (k : ∀ x w', I x w' → T P N y Q (st x) w') : T P N (c.seq y) Q σ w := fun a ha => by
  refine wp_seq (wp_mono (h a ha) ?_)
  intro e a' w' hq
  cases e with
  | normal => obtain ⟨x, hr, hI⟩ := hq; exact k x w' hI a' hr
  | _ => exact hq
theorem G.cut {α : Type} {st : α → Store} {I : α → World → Prop} (x : α) (hs : Sub (st x) σ) (hI : I x w) : G N .normal (Exit.then (fun a' w' => ∃ x, Rep N (st x) a' ∧ I x w') Q) σ w := fun a ha => ⟨x, ha.sub hs, hI⟩
end calls

/-! ### Operations that turn the world -/
section effects
variable {P : Program} {N : Fm} {Q : Exit → Act → World → Prop} {σ : Store} {w : World} {ops : Array Oper} {d : Nat} {t : TypeId} {pos : String} {af : Array Edge} {rest : List Oper}

/-- an operation that answers v in the world w' -/
theorem TL.op {op : Op} {v : Value} {w' : World} (h : ∀ ρ, Agree σ ρ → (execOp ρ ⟨some d, op, t, pos, af, none⟩).run P w = .ok (.value v) w') (hd : Nat.blt d N.n = true) (k : TL P N .seq ops Q rest ((d, v) :: σ) w') :
    TL P N .seq ops Q (⟨some d, op, t, pos, af, none⟩ :: rest) σ w := by
  intro a ha
  refine wpList_plain rfl fun K hK => ?_
  unfold Oper.wp
  rw [h _ ha.agree]
  exact hK _ _ (k _ (ha.put hd v))
theorem TL.op0 {op : Op} {w' : World} (h : ∀ ρ, Agree σ ρ → (execOp ρ ⟨none, op, t, pos, af, none⟩).run P w = .ok .skip w') (k : TL P N .seq ops Q rest σ w') :
    TL P N .seq ops Q (⟨none, op, t, pos, af, none⟩ :: rest) σ w := by
  intro a ha
  refine wpList_plain rfl fun K hK => ?_
  unfold Oper.wp
  rw [h _ ha.agree]
  exact hK _ _ (k _ (ha.putNone _))

/-- a new block -/
theorem ext_alloc (w : World) (o : Obj) : Ext w (w.alloc o) := (Ext.refl w).alloc (Nat.le_refl _) o
theorem size_alloc (w : World) (o : Obj) : (w.alloc o).heap.size = w.heap.size + 1 := by simp
theorem heap_alloc (w : World) (o : Obj) : (w.alloc o).heap[w.heap.size]? = some o := heap_alloc_new w o
theorem madeCells_one (v : Value) (n : Nat) : madeCells #[v] n = Array.replicate n v := by
  apply Array.ext
  · simp [madeCells]
  · intro i h1 h2
    simp [madeCells, Nat.mod_one]

theorem TL.make {α : Type} (f : α → Value) (z : α) {x y : Operand} {ty e : TypeId} [hT : USlice P ty e] {v : Value} {b1 : Nat} [hS : USize P e v 1 b1] (hz : v = f z) (hzc : v.cells = #[v]) {k k' : IntKind} {z1 z2 : Int} {n c : Nat} [e1 : IsN z1 n] [e2 : IsN z2 c]
    (hx : look σ x = some (.int k z1)) (hy : look σ y = some (.int k' z2)) (hd : Nat.blt d N.n = true) (hn : n ≤ c) (hc : b1 * c ≤ 281474976710656 ∧ c ≤ 9223372036854775807)
    (K : ∀ w' b, b = w.heap.size → Bk f w'.heap b e (List.replicate c z) → Ext w w' → w'.heap.size = w.heap.size + 1 → TL P N .seq ops Q rest ((d, .slice (some ⟨b, 0, none⟩) n c) :: σ) w') :
    TL P N .seq ops Q (⟨some d, .makeSlice ty x y, t, pos, af, none⟩ :: rest) σ w := by
  obtain rfl := e1.out
  obtain rfl := e2.out
  obtain ⟨i, hi, hz0, hsz, hby⟩ := hS.info
  have hb : (i.bytes : Int) * (c : Int) ≤ 281474976710656 := by
    have h : ((i.bytes * c : Nat) : Int) ≤ 281474976710656 := by rw [hby]; omega
    rwa [Int.natCast_mul] at h
  have hr := fun (w : World) => run_make (P := P) w ty e i v hT.out hi hz0 k k' (n : Int) (c : Int) (by omega) (by omega) hb (by omega)
  simp only [Int.toNat_natCast, hsz, Nat.mul_one, hzc, madeCells_one] at hr
  refine TL.op (w' := w.alloc (.cells (Array.replicate c v) e)) (fun ρ hρ => ?_) hd (K _ _ rfl ?_ (ext_alloc _ _) (size_alloc _ _))
  · simp [execOp, hρ x _ hx, hρ y _ hy, hr]
  · unfold Bk
    rw [heap_alloc, List.map_replicate, ← hz]
    simp
theorem TL.makeU {x y : Operand} {ty e : TypeId} [hT : USlice P ty e] {b1 : Nat} [hS : USize P e (.int .u64 0) 1 b1] {k k' : IntKind} {z1 z2 : Int} {n c : Nat} [e1 : IsN z1 n] [e2 : IsN z2 c]
    (hx : look σ x = some (.int k z1)) (hy : look σ y = some (.int k' z2)) (hd : Nat.blt d N.n = true) (hn : n ≤ c) (hc : b1 * c ≤ 281474976710656 ∧ c ≤ 9223372036854775807)
    (K : ∀ w' b, b = w.heap.size → Bk u64v w'.heap b e (List.replicate c 0) → Ext w w' → w'.heap.size = w.heap.size + 1 → TL P N .seq ops Q rest ((d, .slice (some ⟨b, 0, none⟩) n c) :: σ) w') :
    TL P N .seq ops Q (⟨some d, .makeSlice ty x y, t, pos, af, none⟩ :: rest) σ w := TL.make u64v 0 rfl rfl hx hy hd hn hc K
theorem TL.makeV {x y : Operand} {ty e : TypeId} [hT : USlice P ty e] {v : Value} {b1 : Nat} [hS : USize P e v 1 b1] (hzc : v.cells = #[v]) {k k' : IntKind} {z1 z2 : Int} {n c : Nat} [e1 : IsN z1 n] [e2 : IsN z2 c]
    (hx : look σ x = some (.int k z1)) (hy : look σ y = some (.int k' z2)) (hd : Nat.blt d N.n = true) (hn : n ≤ c) (hc : b1 * c ≤ 281474976710656 ∧ c ≤ 9223372036854775807)
    (K : ∀ w' b, b = w.heap.size → Bk (fun v : Value => v) w'.heap b e (List.replicate c v) → Ext w w' → w'.heap.size = w.heap.size + 1 → TL P N .seq ops Q rest ((d, .slice (some ⟨b, 0, none⟩) n c) :: σ) w') :
    TL P N .seq ops Q (⟨some d, .makeSlice ty x y, t, pos, af, none⟩ :: rest) σ w := TL.make (fun v => v) v rfl hzc hx hy hd hn hc K

/-- a store into a block that is known whole -/
theorem upd_setCell (w : World) (b i : Nat) (v : Value) : Upd b w (w.setCell ⟨b, i, none⟩ v) :=
  ⟨rfl, rfl, rfl, by simp [World.setCell], fun k hk => Below.heap_setCell w _ v k hk⟩
theorem bk_setCell {α : Type} {f : α → Value} {b : Nat} {e : TypeId} {l : List α} (h : Bk f w.heap b e l) (i : Nat) (y : α) : Bk f (w.setCell ⟨b, i, none⟩ (f y)).heap b e (l.set i y) := by
  unfold Bk at h ⊢
  simp [World.setCell, Array.getElem?_modify, h, List.map_set]
theorem TL.store {α : Type} {f : α → Value} {x y : Operand} {ty e : TypeId} {z0 : Value} {b1 : Nat} [hS : USize P ty z0 1 b1] {b o k : Nat} {l : List α} {u : α} (hc : (f u).cells = #[f u]) (h1 : (f u).oneCell' = true)
    (hx : look σ x = some (.pointer (some ⟨b, o + k, none⟩))) (hy : look σ y = some (f u)) (hB : Bk f w.heap b e l) (hk : o + k < l.length)
    (K : ∀ w', Bk f w'.heap b e (l.set (o + k) u) → Upd b w w' → TL P N .seq ops Q rest σ w') :
    TL P N .seq ops Q (⟨none, .store ty x y, t, pos, af, none⟩ :: rest) σ w := by
  obtain ⟨i, hi, _, hsz, _⟩ := hS.info
  have hcell : w.cell? ⟨b, o + k, none⟩ = some (f (l[o + k])) := by rw [cell_of_hcell, hB.cell, List.getElem?_eq_getElem hk]; rfl
  have hfr : w.frozen? ⟨b, o + k, none⟩ = false := by unfold World.frozen?; rw [show w.heap[b]? = _ from hB]; simp
  refine TL.op0 (w' := w.setCell ⟨b, o + k, none⟩ (f u)) (fun ρ hρ => ?_) (K _ (bk_setCell hB _ u) (upd_setCell _ _ _ _))
  have hst : (Go.store ⟨b, o + k, none⟩ (f u)).run P w = .ok () (w.setCell ⟨b, o + k, none⟩ (f u)) := by
    rw [run_store P w _ _ _ h1]; simp [hcell, hfr]
  simp [execOp, hρ x _ hx, hρ y _ hy, Instr.storeAt, Instr.sureAddr, storeVar, sizeOf, typeInfo, hi, hsz, hc, storeCells, Addr.add, hst]
theorem TL.storeU {x y : Operand} {ty e : TypeId} {z0 : Value} {b1 : Nat} [hS : USize P ty z0 1 b1] {b k : Nat} {l : List Nat} {zu : Int} {u : Nat} [eu : IsN zu u]
    (hx : look σ x = some (.pointer (elemA (some ⟨b, 0, none⟩) k))) (hy : look σ y = some (.int .u64 zu)) (hB : Bk u64v w.heap b e l) (hk : k < l.length)
    (K : ∀ w', Bk u64v w'.heap b e (l.set k u) → Upd b w w' → TL P N .seq ops Q rest σ w') :
    TL P N .seq ops Q (⟨none, .store ty x y, t, pos, af, none⟩ :: rest) σ w := by
  have := TL.store (P := P) (N := N) (ops := ops) (Q := Q) (rest := rest) (ty := ty) (t := t) (pos := pos) (af := af) (f := u64v) (o := 0) (k := k) (u := u) rfl rfl (by rw [hx]; simp [elemA, add_mk]) (by rw [hy, eu.out]; rfl) hB (by omega)
  rw [Nat.zero_add] at this
  exact this K
theorem TL.storeUo {x y : Operand} {ty e : TypeId} {z0 : Value} {b1 : Nat} [hS : USize P ty z0 1 b1] {b o k : Nat} {l : List Nat} {zu : Int} {u : Nat} [eu : IsN zu u]
    (hx : look σ x = some (.pointer (elemA (some ⟨b, o, none⟩) k))) (hy : look σ y = some (.int .u64 zu)) (hB : Bk u64v w.heap b e l) (hk : o + k < l.length)
    (K : ∀ w', Bk u64v w'.heap b e (l.set (o + k) u) → Upd b w w' → TL P N .seq ops Q rest σ w') :
    TL P N .seq ops Q (⟨none, .store ty x y, t, pos, af, none⟩ :: rest) σ w :=
  TL.store (f := u64v) (o := o) (k := k) (u := u) rfl rfl (by rw [hx]; simp [elemA, add_mk]) (by rw [hy, eu.out]; rfl) hB hk K
end effects

/-! ### copy, literals of slices, append -/
section more
variable {P : Program} {N : Fm} {Q : Exit → Act → World → Prop} {σ : Store} {w : World} {ops : Array Oper} {d : Nat} {t : TypeId} {pos : String} {af : Array Edge} {rest : List Oper}
theorem upd_setRow (w : World) (b : Nat) (cs : Array Value) : Upd b w (w.setRow b cs) := ⟨rfl, rfl, rfl, by simp [World.setRow], fun k hk => setRow_other w b k cs hk⟩
theorem upd_refl (w : World) (b : Nat) : Upd b w w := ⟨rfl, rfl, rfl, rfl, fun _ _ => rfl⟩
theorem sl_cells {α : Type} {f : α → Value} {B n c : Nat} {A : Option Addr} {l : List α} (h : Sl f w.heap B A n c l) {b o : Nat} (hA : A = some ⟨b, o, none⟩) (hn : n ≠ 0) : ∀ j v, (l.map f)[j]? = some v → w.cell? ((⟨b, o, none⟩ : Addr).add j) = some v := by
  intro j v hv
  rcases h.mem with h0 | ⟨b', o', e, _, hc⟩
  · exact absurd h0 hn
  · rw [hA] at e
    cases e
    rw [add_mk, cell_of_hcell]
    rw [List.getElem?_map] at hv
    cases hx : l[j]? with
    | none => rw [hx] at hv; cases hv
    | some x => rw [hx] at hv; simp at hv; subst hv; exact hc j x hx
theorem TL.copy {α : Type} {f : α → Value} (h1 : ∀ u, (f u).oneCell' = true) {x y : Operand} {tx ty e : TypeId} [hT : USlice P tx e] {z : Value} {b1 : Nat} [hS : USize P e z 1 b1] {b o n c n' c' B : Nat} {A' : Option Addr} {l l' : List α}
    (hx : look σ x = some (.slice (some ⟨b, o, none⟩) n c)) (hy : look σ y = some (.slice A' n' c')) (hd : Nat.blt d N.n = true) (hB : Bk f w.heap b e l) (hs : Sl f w.heap B A' n' c' l') (hfit : o + n ≤ l.length)
    (K : ∀ w', Bk f w'.heap b e (l.take o ++ l'.take (min n' n) ++ l.drop (o + min n' n)) → Upd b w w' → TL P N .seq ops Q rest ((d, .int .i64 ((min n' n : Nat) : Int)) :: σ) w') :
    TL P N .seq ops Q (⟨some d, .call { callee := .builtin .copy, args := #[x, y], argTypes := #[tx, ty] }, t, pos, af, none⟩ :: rest) σ w := by
  obtain ⟨ii, hii, _, hsz, _⟩ := hS.info
  have hmin : Nat.min n' n = min n' n := rfl
  rcases Nat.eq_zero_or_pos (min n' n) with h0 | h0
  · rw [h0] at K
    have hK := K w (by simpa using hB) (upd_refl _ _)
    refine TL.op (fun ρ hρ => ?_) hd hK
    have hf : (Builtin.firstCells 1 0 (.slice A' n' c')).run P w = .ok #[] w := by
      cases A' <;> simp [Builtin.firstCells, loadCells, loadCellsFrom]
    simp [execOp, resolve, invoke, builtin, Builtin.copy_, hρ x _ hx, hρ y _ hy, run_underlying hT.out, Builtin.lenOf, sizeOf, typeInfo, hii, hsz, hmin, h0, hf, storeCells, goInt]
  · have hn' : n' ≠ 0 := by omega
    rcases hs.mem with h | ⟨b', o', rfl, _, _⟩
    · exact absurd h hn'
    have hl' := hs.len
    have hf : (Builtin.firstCells 1 (min n' n) (.slice (some ⟨b', o', none⟩) n' c')).run P w = .ok ((l'.take (min n' n)).map f).toArray w := by
      refine run_firstCells_some w 1 _ _ _ _ _ (by simp; omega) fun j v hv => sl_cells hs rfl hn' j v ?_
      rw [List.map_take, List.getElem?_take] at hv
      split at hv <;> first | exact hv | cases hv
    have hst := run_storeCells_at P b o e ((l'.take (min n' n)).map f) 0 (l.map f).toArray w hB (by simp; omega) (fun v hv => by
      obtain ⟨u, _, rfl⟩ := List.mem_map.1 hv
      exact h1 u)
    have hlen : (l'.take (min n' n)).length = min n' n := by rw [List.length_take]; omega
    simp only [Nat.add_zero, List.length_map, hlen] at hst
    refine TL.op (fun ρ hρ => ?_) hd (K (w.setRow b ((l.map f).take o ++ (l'.take (min n' n)).map f ++ (l.map f).drop (o + min n' n)).toArray) ?_ (upd_setRow _ _ _))
    · simp only [execOp, resolve, invoke, builtin, Builtin.copy_, Sem.run_bind, Sem.run_pure, Result.andThen_ok, List.map_toArray, List.map_cons, List.map_nil, hρ x _ hx, hρ y _ hy, run_underlying hT.out, Builtin.lenOf]
      simp [sizeOf, typeInfo, hii, hsz, hmin, run_underlying hT.out, hf, goInt]
      simp only [List.map_take] at hst
      rw [hst]
      simp
    · unfold Bk
      have hb := hB
      unfold Bk at hb
      rw [setRow_heap w b _ _ e _ hb]
      simp only [List.map_append, List.map_take, List.map_drop]
theorem run_build {P : Program} {w : World} {ty e : TypeId} (hT : USlice P ty e) {z : Value} {b1 : Nat} (hS : USize P e z 1 b1) (hzc : z.cells = #[z]) (vs : List Value) (parts : Array (Nat × Value))
    (hp : Instr.fill (fun i => some (i * 1, 1)) (Array.replicate vs.length z) parts.toList = some vs.toArray) (hn : vs.length ≤ 16777216) :
    (Instr.buildSlice ty vs.length parts).run P w = .ok (.slice (some ⟨w.heap.size, 0, none⟩) vs.length vs.length) (w.alloc (.cells vs.toArray e)) := by
  obtain ⟨i, hi, hz0, hsz, hby⟩ := hS.info
  have hm : (Array.range vs.length).map (fun x => ([z] : List Value)[x % 1]?.getD default) = Array.replicate vs.length z := by
    apply Array.ext
    · simp
    · intro i h1 h2; simp [Nat.mod_one]
  by_cases h0 : vs.length = 0
  · have hvs : vs = [] := List.eq_nil_of_length_eq_zero h0
    subst hvs
    simp only [List.length_nil, Array.replicate_zero] at hp
    simp [Instr.buildSlice, run_underlying hT.out, sizeOf, typeInfo, hi, hsz, newRow, Array.range_zero']
    simp only [Nat.mul_one] at hp
    rw [hp]
    simp
  · simp only [Nat.mul_one] at hp
    simp [Instr.buildSlice, run_underlying hT.out, sizeOf, typeInfo, hi, hsz, newRow, zeroValue, hz0, hzc, h0, show ¬ 16777216 < vs.length by omega]
    rw [hm, hp]
    simp
theorem TL.build0 {α : Type} (f : α → Value) {ty e : TypeId} [hT : USlice P ty e] {z : Value} {b1 : Nat} [hS : USize P e z 1 b1] (hd : Nat.blt d N.n = true) (hzc : z.cells = #[z])
    (K : ∀ w' b, b = w.heap.size → Bk f w'.heap b e [] → Ext w w' → w'.heap.size = w.heap.size + 1 → TL P N .seq ops Q rest ((d, .slice (some ⟨b, 0, none⟩) 0 0) :: σ) w') :
    TL P N .seq ops Q (⟨some d, .buildSlice ty 0 #[], t, pos, af, none⟩ :: rest) σ w := by
  refine TL.op (w' := w.alloc (.cells #[] e)) (fun ρ hρ => ?_) hd (K _ _ rfl (by unfold Bk; rw [heap_alloc]; rfl) (ext_alloc _ _) (size_alloc _ _))
  have := run_build (w := w) hT hS hzc [] #[] (by simp [Instr.fill]) (by simp)
  simp only [List.length_nil] at this
  simp [execOp, this]
theorem TL.build1 {α : Type} {f : α → Value} (hfc : ∀ u, (f u).cells = #[f u]) {x : Operand} {ty e : TypeId} [hT : USlice P ty e] {z : Value} {b1 : Nat} [hS : USize P e z 1 b1] (hzc : z.cells = #[z]) {u : α} (hx : look σ x = some (f u)) (hd : Nat.blt d N.n = true)
    (K : ∀ w' b, b = w.heap.size → Bk f w'.heap b e [u] → Ext w w' → w'.heap.size = w.heap.size + 1 → TL P N .seq ops Q rest ((d, .slice (some ⟨b, 0, none⟩) 1 1) :: σ) w') :
    TL P N .seq ops Q (⟨some d, .buildSlice ty 1 #[(0, x)], t, pos, af, none⟩ :: rest) σ w := by
  refine TL.op (w' := w.alloc (.cells #[f u] e)) (fun ρ hρ => ?_) hd (K _ _ rfl (by unfold Bk; rw [heap_alloc]; rfl) (ext_alloc _ _) (size_alloc _ _))
  have := run_build (w := w) hT hS hzc [f u] #[(0, f u)] (by simp [Instr.fill, hfc]) (by simp)
  simp only [List.length_cons, List.length_nil, Nat.zero_add] at this
  simp [execOp, hρ x _ hx, this]
theorem TL.build1U {x : Operand} {ty e : TypeId} [hT : USlice P ty e] {b1 : Nat} [hS : USize P e (.int .u64 0) 1 b1] {z1 : Int} {u : Nat} [e1 : IsN z1 u] (hx : look σ x = some (.int .u64 z1)) (hd : Nat.blt d N.n = true)
    (K : ∀ w' b, b = w.heap.size → Bk u64v w'.heap b e [u] → Ext w w' → w'.heap.size = w.heap.size + 1 → TL P N .seq ops Q rest ((d, .slice (some ⟨b, 0, none⟩) 1 1) :: σ) w') :
    TL P N .seq ops Q (⟨some d, .buildSlice ty 1 #[(0, x)], t, pos, af, none⟩ :: rest) σ w := TL.build1 (f := u64v) (fun _ => rfl) rfl (by rw [hx, e1.out]; rfl) hd K
theorem run_append_of_nil {w : World} {lo : Nat} {t ty e : TypeId} {i : TypeInfo} {size : Nat} (ht : P.underlying t = some (.slice e)) (hi : P.info? e = some i)
    {v : Value} {n : Nat} {xs : List Value} (hown : w.ownsRow lo e size v n xs) (c : Nat) : (Builtin.append_ #[t, t] ty #[v, .slice none 0 c]).run P w = .ok v w := by
  rcases hown.2 with ⟨rfl, rfl⟩ | ⟨g, cap, cur, rfl, _, _, hnc, _⟩
  · simp [Builtin.append_, run_underlying ht, sizeOf, typeInfo, hi, Builtin.lenOf, Builtin.firstCells]
  · simp [Builtin.append_, run_underlying ht, sizeOf, typeInfo, hi, Builtin.lenOf, Builtin.firstCells, hnc, storeCells]
theorem TL.append {α : Type} {f : α → Value} (h1 : ∀ u, (f u).oneCell' = true) {x y : Operand} {ty e : TypeId} [hT : USlice P ty e] {z : Value} {b1 : Nat} [hS : USize P e z 1 b1] (hzc : z.cells.size = 1) {lo n c m c' B : Nat} {A A' : Option Addr} {l l' : List α}
    (hx : look σ x = some (.slice A n c)) (hy : look σ y = some (.slice A' m c')) (hd : Nat.blt d N.n = true) (ho : Ow f w.heap lo e A n c l) (hs : Sl f w.heap B A' m c' l') (hlo : lo ≤ w.heap.size)
    (hroom : (n + m) * b1 ≤ 140737488355328 ∧ n + m ≤ 9223372036854775807)
    (K : ∀ w' A2 c2, Ow f w'.heap lo e A2 (n + m) c2 (l ++ l') → w.grownBy w' (Value.slice A n c).ownBlock → Below lo w w' → TL P N .seq ops Q rest ((d, .slice A2 (n + m) c2) :: σ) w') :
    TL P N .seq ops Q (⟨some d, .call { callee := .builtin .append, args := #[x, y], argTypes := #[ty, ty] }, t, pos, af, none⟩ :: rest) σ w := by
  obtain ⟨i, hi, hz0, hsz, hby⟩ := hS.info
  have hown := ow_ownsRow ho
  have hbelow : ∀ w', w.grownBy w' (Value.slice A n c).ownBlock → Below lo w w' := fun w' hg =>
    (Below.refl lo w).grown hg hlo fun k hk => (hown.lt k hk).1
  have hl' := hs.len
  rcases Nat.eq_zero_or_pos m with h0 | h0
  · subst h0
    have hl0 : l' = [] := List.eq_nil_of_length_eq_zero hl'
    subst hl0
    cases A' with
    | none =>
      refine TL.op (fun ρ hρ => ?_) hd (K w A c (by simpa using ho) (World.grownBy.refl w _) (Below.refl _ _))
      have := run_append_of_nil (ty := t) hT.out hi hown c'
      simp [execOp, resolve, invoke, builtin, hρ x _ hx, hρ y _ hy, this]
    | some a =>
      obtain ⟨v', w', hr, h2, h3, _⟩ := run_append_own (P := P) w lo ty t e i z 1 b1 hT.out hi hz0 hsz hby hzc (by omega) _ n (l.map f) hown a 0 c' [] (by simp) (fun j u hj => by simp at hj) (fun u hu => by cases hu) (by unfold maxLen; omega) (by omega) hlo
      have h2' : w'.ownsRow lo e 1 v' (n + 0) ((l ++ []).map f) := by simpa using h2
      obtain ⟨A2, c2, rfl, hw⟩ := ownsRow_ow h2'
      refine TL.op (fun ρ hρ => ?_) hd (K w' A2 c2 hw h3 (hbelow _ h3))
      simp [execOp, resolve, invoke, builtin, hρ x _ hx, hρ y _ hy, hr]
  · rcases hs.mem with h | ⟨b, o, rfl, _, _⟩
    · omega
    obtain ⟨v', w', hr, h2, h3, _⟩ := run_append_own (P := P) w lo ty t e i z 1 b1 hT.out hi hz0 hsz hby hzc (by omega) _ n (l.map f) hown ⟨b, o, none⟩ m c' (l'.map f) (by simp [hl']) (sl_cells hs rfl (by omega))
      (fun u hu => by obtain ⟨q, _, rfl⟩ := List.mem_map.1 hu; exact h1 q) (by unfold maxLen; omega) (by omega) hlo
    have h2' : w'.ownsRow lo e 1 v' (n + m) ((l ++ l').map f) := by simpa using h2
    obtain ⟨A2, c2, rfl, hw⟩ := ownsRow_ow h2'
    refine TL.op (fun ρ hρ => ?_) hd (K w' A2 c2 hw h3 (hbelow _ h3))
    simp [execOp, resolve, invoke, builtin, hρ x _ hx, hρ y _ hy, hr]
end more

/-- a byte of a string -/
theorem ev_stridx {P : Program} {σ : Store} {H : Array Obj} {d : Option Tmp} {t : TypeId} {pos : String} {af : Array Edge} {gd : Option (Nat × Bool)} {x i : Operand} {ty : TypeId} (hT : P.underlying ty = some .string) {s : ByteArray} {k : IntKind} {z0 : Int} {m : Nat} [e0 : IsN z0 m] {b : Nat}
    (hx : look σ x = some (.string s)) (hi : look σ i = some (.int k z0)) (hb : (s.data[m]?).map (fun u => u.toNat) = some b) : Ev P σ H ⟨d, .index ty x i, t, pos, af, gd⟩ (.int .u8 (b : Int)) := fun ρ w hρ _ => by
  cases hs : s.data[m]? with
  | none => rw [hs] at hb; cases hb
  | some u =>
    rw [hs] at hb
    simp at hb
    subst hb
    have h1 : s[m]? = some u := by
      have := (Array.getElem?_eq_some_iff.1 hs)
      obtain ⟨h, e⟩ := this
      have h' : m < s.size := h
      rw [getElem?_pos s m h']
      congr 1
    simp [execOp, hρ x _ hx, hρ i _ hi, Instr.index, asIntOf, run_underlying hT, e0.out, h1]

attribute [irreducible] T TL TM MixK G Ev Cl Pure Back Bk Ow Sub

end Go.Eng

namespace Go.Eng
open Go Go.RowKit

section
variable {P : Program} {σ : Store} {H : Array Obj} {d : Option Tmp} {t : TypeId} {pos : String} {af : Array Edge} {gd : Option (Nat × Bool)}
theorem ev_max2 {x y : Operand} {tys : Array TypeId} {z1 z2 : Int} {m n : Nat} [e1 : IsN z1 m] [e2 : IsN z2 n] (hx : look σ x = some (.int .i64 z1)) (hy : look σ y = some (.int .i64 z2)) :
    Ev P σ H ⟨d, .call { callee := .builtin .max, args := #[x, y], argTypes := tys }, t, pos, af, gd⟩ (.int .i64 ((max m n : Nat) : Int)) := by
  unfold Ev
  intro ρ w hρ _
  rw [e1.out] at hx
  rw [e2.out] at hy
  have e : (if m < n then (n : Int) else (m : Int)) = ((max m n : Nat) : Int) := by split <;> omega
  simp [execOp, hρ x _ hx, hρ y _ hy, resolve, invoke, builtin, Builtin.max_, Builtin.max2, e]
theorem ev_min2 {x y : Operand} {tys : Array TypeId} {z1 z2 : Int} {m n : Nat} [e1 : IsN z1 m] [e2 : IsN z2 n] (hx : look σ x = some (.int .i64 z1)) (hy : look σ y = some (.int .i64 z2)) :
    Ev P σ H ⟨d, .call { callee := .builtin .min, args := #[x, y], argTypes := tys }, t, pos, af, gd⟩ (.int .i64 ((min m n : Nat) : Int)) := by
  unfold Ev
  intro ρ w hρ _
  rw [e1.out] at hx
  rw [e2.out] at hy
  have e : (if n < m then (n : Int) else (m : Int)) = ((min m n : Nat) : Int) := by split <;> omega
  simp [execOp, hρ x _ hx, hρ y _ hy, resolve, invoke, builtin, Builtin.min_, Builtin.min2, e]
theorem run_bin_subU (m n : Nat) (h : n ≤ m ∧ m < 18446744073709551616) (tx : TypeId) (w : World) : (binOp .sub tx (.int .u64 (m : Int)) (.int .u64 (n : Int))).run P w = .ok (.int .u64 ((m - n : Nat) : Int)) w := by
  rw [run_bin_sub, wrap_u64 _ (by omega), Int.natCast_sub h.1]
theorem ev_subU {x y : Operand} {tx ty : TypeId} {z1 z2 : Int} {m n : Nat} [e1 : IsN z1 m] [e2 : IsN z2 n] (hx : look σ x = some (.int .u64 z1)) (hy : look σ y = some (.int .u64 z2)) (h : n ≤ m ∧ m < 18446744073709551616) :
    Ev P σ H ⟨d, .binOp .sub tx x y ty, t, pos, af, gd⟩ (.int .u64 ((m - n : Nat) : Int)) := ev_bin (by rw [hx, e1.out]) (by rw [hy, e2.out]) fun w => run_bin_subU m n h tx w
/-- slices of slices -/
instance : Inhabited (SA Nat) := ⟨⟨none, 0, 0, []⟩⟩
def sav (x : SA Nat) : Value := .slice x.A x.n x.c
end
end Go.Eng

namespace Go.Eng
open Go Go.RowKit

def n64v (x : Nat) : Value := .int .i64 (x : Int)
section
variable {P : Program} {σ : Store} {H : Array Obj} {d : Option Tmp} {t : TypeId} {pos : String} {af : Array Edge} {gd : Option (Nat × Bool)}
end
section
variable {P : Program} {N : Fm} {Q : Exit → Act → World → Prop} {σ : Store} {w : World} {ops : Array Oper} {d : Nat} {t : TypeId} {pos : String} {af : Array Edge} {rest : List Oper}
end
end Go.Eng
