/- A region whose order is drawn: a walk in one order, where each operation is of one of three kinds: 0 looks at no memory, 1 only reads and comes before all later effects, 2 an effect, which stands alone when its turn comes. -/
import Derived.StillTail
import Derived.Deep.Draws
set_option linter.unusedVariables false
set_option linter.unusedSimpArgs false
namespace Go.Eng
open Go

section
variable {P : Program} {ops : Array Oper} {Q : Exit → Act → World → Prop}

def chainL (ops : Array Oper) : Nat → List Nat → Bool
  | _, [] => true
  | t, u :: r => Region.waitsFor .any ops u t && chainL ops u r
def reach (ops : Array Oper) (i : Nat) : Nat → Nat → Bool
  | 0, e => Region.waitsFor .any ops e i
  | f + 1, e => Region.waitsFor .any ops e i || (List.range ops.size).any fun k => Region.waitsFor .any ops e k && reach ops i f k
def effs : List (Nat × Nat) → List Nat
  | [] => []
  | (i, 0) :: r => effs r
  | (i, 1) :: r => effs r
  | (i, _ + 2) :: r => i :: effs r
def lateB (ops : Array Oper) (i : Nat) : List Nat → Bool
  | [] => true
  | e :: r => reach ops i 2 e && chainL ops e r
def mixC (ops : Array Oper) (E : List Nat) : List (Nat × Nat) → Array Bool → Bool
  | [], L => (Region.ready .any ops L).isEmpty
  | (i, 0) :: r, L => (Region.ready .any ops L).contains i && Region.free .any ops L i && !E.contains i && mixC ops E r (L.setIfInBounds i true)
  | (i, 1) :: r, L => (Region.ready .any ops L).contains i && Region.free .any ops L i && !E.contains i && lateB ops i (effs r) && mixC ops E r (L.setIfInBounds i true)
  | (i, _ + 2) :: r, L => decide (Region.ready .any ops L = [i]) && E.contains i && mixC ops E r (L.setIfInBounds i true)
def mixB (ops : Array Oper) (r : List (Nat × Nat)) : Bool := Region.noSelect ops && Nat.beq r.length ops.size && mixC ops (effs r) r (Array.replicate ops.size false)

structure CInv (ops : Array Oper) (L : Array Bool) : Prop where
  size : L.size = ops.size
  closed : ∀ j oj, ops[j]? = some oj → L.getD j false = true → ∀ e ∈ oj.after, Region.binds .any e = true → L.getD e.on false = true
theorem CInv.set {i : Nat} {L : Array Bool} (inv : CInv ops L) (hi : i ∈ Region.ready .any ops L) : CInv ops (L.setIfInBounds i true) := by
  obtain ⟨_, oi, hoi, hall⟩ := mem_ready.1 hi
  refine ⟨by simp [inv.size], fun j oj hj hl e he hb => ?_⟩
  by_cases hij : i = j
  · subst hij
    have : oj = oi := Option.some.inj (hj.symm.trans hoi)
    subst this
    exact getD_set_true (hall e he hb)
  · rw [getD_set_ne false hij] at hl
    exact getD_set_true (inv.closed j oj hj hl e he hb)
theorem waits_un {L : Array Bool} (inv : CInv ops L) {j i : Nat} (hw : Region.waitsFor .any ops j i = true) (hi : L.getD i false = false) : L.getD j false = false ∧ j ∉ Region.ready .any ops L := by
  obtain ⟨oj, hoj, e, he, hb, hon⟩ := Region.waitsFor_spec hw
  constructor
  · cases hl : L.getD j false with
    | false => rfl
    | true => have := inv.closed j oj hoj hl e he hb; rw [hon, hi] at this; cases this
  · intro hr
    obtain ⟨_, o', ho', hall⟩ := mem_ready.1 hr
    have : o' = oj := Option.some.inj (ho'.symm.trans hoj)
    subst this
    have := hall e he hb
    rw [hon, hi] at this
    cases this
theorem chain_spec {L : Array Bool} (inv : CInv ops L) : ∀ (t : Nat) (T : List Nat), chainL ops t T = true → L.getD t false = false → ∀ u ∈ T, u ∉ Region.ready .any ops L
  | _, [], _, _, u, hu => by cases hu
  | t, q :: r, h, ht, u, hu => by
    simp only [chainL, Bool.and_eq_true] at h
    have h1 := waits_un inv h.1 ht
    rcases List.mem_cons.1 hu with rfl | hu'
    · exact h1.2
    · exact chain_spec inv q r h.2 h1.1 u hu'
theorem reach_un {L : Array Bool} (inv : CInv ops L) {i : Nat} (hi : L.getD i false = false) : ∀ (f e : Nat), reach ops i f e = true → L.getD e false = false ∧ e ∉ Region.ready .any ops L
  | 0, e, h => waits_un inv h hi
  | f + 1, e, h => by
    simp only [reach, Bool.or_eq_true] at h
    rcases h with h | h
    · exact waits_un inv h hi
    · obtain ⟨k, _, hk⟩ := List.any_eq_true.1 h
      simp only [Bool.and_eq_true] at hk
      exact waits_un inv hk.1 (reach_un inv hi f k hk.2).1
theorem late_spec {L : Array Bool} (inv : CInv ops L) {i : Nat} (hi : L.getD i false = false) : ∀ (T : List Nat), lateB ops i T = true → ∀ u ∈ T, u ∉ Region.ready .any ops L
  | [], _, u, hu => by cases hu
  | e :: r, h, u, hu => by
    simp only [lateB, Bool.and_eq_true] at h
    have h1 := reach_un inv hi 2 e h.1
    rcases List.mem_cons.1 hu with rfl | hu'
    · exact h1.2
    · exact chain_spec inv e r h.2 h1.1 u hu'

/-- whatever order is drawn; operations outside of E are still -/
def wpAnyE (P : Program) (ops : Array Oper) (E : List Nat) (Q : Exit → Act → World → Prop) : Nat → Array Bool → Act → World → Prop
  | 0, L, a, w => Region.ready .any ops L = [] ∧ Q .normal a w
  | f + 1, L, a, w => (Region.ready .any ops L = [] → Q .normal a w) ∧ ∀ i ∈ Region.ready .any ops L,
    if E.contains i then wpOp P ops Q i (wpAnyE P ops E Q f (L.setIfInBounds i true)) a w else stOp P ops w i (fun a' => wpAnyE P ops E Q f (L.setIfInBounds i true) a' w) a
theorem wpAny_of_E {E : List Nat} : ∀ (f : Nat) (L : Array Bool) (a : Act) (w : World), wpAnyE P ops E Q f L a w → wpAny P .any ops Q f L a w
  | 0, _, _, _, h => h
  | f + 1, L, a, w, h => ⟨h.1, fun i hi => by
    have h1 := h.2 i hi
    split at h1
    · exact wpOp_mono (fun a' w' => wpAny_of_E f _ a' w') h1
    · exact wpOp_of_stOp (fun a' h' => wpAny_of_E f _ a' w h') h1⟩

theorem yields_at {o : Oper} {v : Value} {a : Act} (h : Yields P ops o v a) (w : World) : YieldsAt P ops w o v a :=
  h.imp (fun ⟨hw, hv⟩ => ⟨hw, .inl (hv w)⟩) id

/-- the operation of kind 0 or 1 may be taken first -/
theorem wpAnyE_first {E : List Nat} {i : Nat} {oi : Oper} {v : Value} (Y : Act → World → Prop) (late : List Nat) (hi : ops[i]? = some oi) (hiE : E.contains i = false) (hsel : ∀ (j : Nat) (o : Oper) cs b, ops[j]? = some o → o.op ≠ .select cs b)
    (hQ : ∀ c a w, Q (.panic c) (a.put oi.dst v) w → Q (.panic c) a w)
    (hY : ∀ a w, Y a w → YieldsAt P ops w oi v a)
    (hYput : ∀ a w (oj : Oper) u, Y a w → oi.apart ops oj = true → (∀ cs b, oi.op ≠ .select cs b) → Y (a.put oj.dst u) w)
    (hE : (∀ a w, Y a w → Yields P ops oi v a ∧ ∀ a' w', Yields P ops oi v a' → Y a' w') ∨ (∀ L, CInv ops L → L.getD i false = false → ∀ u ∈ late, u ∉ Region.ready .any ops L)) :
    ∀ (f : Nat) (L : Array Bool) (a : Act) (w : World), CInv ops L → (∀ e, E.contains e = true → L.getD e false = true ∨ e ∈ late) →
      (∀ j oj, ops[j]? = some oj → j ≠ i → L.getD j true = false → (∀ e ∈ oj.after, Region.binds .any e = true → e.on ≠ i) → oi.apart ops oj = true) →
      i ∈ Region.ready .any ops L → Y a w →
      wpAnyE P ops E Q f (L.setIfInBounds i true) (a.put oi.dst v) w → wpAnyE P ops E Q (f + 1) L a w := by
  intro f
  induction f with
  | zero =>
    intro L a w inv hlate hfree hr hy H
    refine ⟨fun h => (by rw [h] at hr; cases hr), fun j hj => ?_⟩
    by_cases hji : j = i
    · subst hji; rw [hiE]; exact (hY a w hy).stOp hi (K := fun a' => wpAnyE P ops E Q _ _ a' w) H
    · have := ready_mono hj hji
      rw [H.1] at this
      cases this
  | succ f ih =>
    intro L a w inv hlate hfree hr hy H
    have hun := (mem_ready.1 hr).1
    refine ⟨fun h => (by rw [h] at hr; cases hr), fun j hj => ?_⟩
    by_cases hji : j = i
    · subst hji; rw [hiE]; exact (hY a w hy).stOp hi (K := fun a' => wpAnyE P ops E Q _ _ a' w) H
    · have h1 := H.2 j (ready_mono hj hji)
      obtain ⟨hjun, oj, hoj, hall⟩ := mem_ready.1 hj
      have hnot : ∀ e ∈ oj.after, Region.binds .any e = true → e.on ≠ i := fun e he hb heq => by
        have h1 := hall e he hb
        rw [heq, getD_both hun] at h1
        cases h1
      have hap := hfree j oj hoj hji hjun hnot
      have hfree' : ∀ k ok, ops[k]? = some ok → k ≠ i → (L.setIfInBounds j true).getD k true = false →
          (∀ e ∈ ok.after, Region.binds .any e = true → e.on ≠ i) → oi.apart ops ok = true := fun k ok hk hki hun hno => by
        refine hfree k ok hk hki ?_ hno
        by_cases hjk : j = k
        · subst hjk; exact hjun
        · rw [getD_set_ne true hjk] at hun; exact hun
      have hlate' : ∀ e, E.contains e = true → (L.setIfInBounds j true).getD e false = true ∨ e ∈ late := fun e he => (hlate e he).imp getD_set_true id
      have inv' := inv.set hj
      have hr' := ready_mono hr (Ne.symm hji)
      split
      · rename_i hjE
        rw [hjE, if_pos rfl] at h1
        rcases hE with hE | hE
        · obtain ⟨hyy, hback⟩ := hE a w hy
          have h2 := wpOp_put hoj hap (fun cs b => hsel i oi cs b hi) (fun cs b => hsel j oj cs b hoj) hQ hyy h1
          refine wpOp_mono (fun a' w' h3 => ih (L.setIfInBounds j true) a' w' inv' hlate' hfree' hr' (hback _ _ h3.1) ?_) h2
          rw [Array.setIfInBounds_comm _ _ hji]
          exact h3.2
        · rcases hlate j hjE with h | h
          · rw [getD_both hjun] at h; cases h
          · exact absurd hj (hE L inv (getD_both hun) j h)
      · rename_i hjE
        rw [if_neg hjE] at h1
        obtain ⟨u, hyj, hK⟩ := yieldsAt_of_stOp hoj h1
        obtain ⟨p1, p2, p3⟩ := Oper.apart_spec hap
        have hyj' : YieldsAt P ops w oj u a := hyj.of_same (execOp_put oj (fun cs b => hsel j oj cs b hoj) a oi.dst v p1).symm (wanted_put oj a oi.dst v p1).symm
        refine hyj'.stOp hoj ?_
        refine ih (L.setIfInBounds j true) _ w inv' hlate' hfree' hr' (hYput a w oj u hy hap (fun cs b => hsel i oi cs b hi)) ?_
        rw [Array.setIfInBounds_comm _ _ hji, ← Act.put_comm a v u p2]
        exact hK

/-- the walk in one order -/
def wpMix (P : Program) (ops : Array Oper) (Q : Exit → Act → World → Prop) : List (Nat × Nat) → Act → World → Prop
  | [], a, w => Q .normal a w
  | (i, 0) :: r, a, w => ∃ o v, ops[i]? = some o ∧ Yields P ops o v a ∧ wpMix P ops Q r (a.put o.dst v) w
  | (i, 1) :: r, a, w => ∃ o v, ops[i]? = some o ∧ YieldsAt P ops w o v a ∧ wpMix P ops Q r (a.put o.dst v) w
  | (i, _ + 2) :: r, a, w => wpOp P ops Q i (wpMix P ops Q r) a w
theorem wpAnyE_mix {E : List Nat} (hQ : ∀ c a w, ¬ Q (.panic c) a w) (hsel : Region.noSelect ops = true) : ∀ (r : List (Nat × Nat)) (L : Array Bool) (a : Act) (w : World), CInv ops L → (∀ e, E.contains e = true → L.getD e false = true ∨ e ∈ effs r) → mixC ops E r L = true → wpMix P ops Q r a w → wpAnyE P ops E Q r.length L a w
  | [], L, a, w, inv, hE, hB, h => ⟨by simpa [mixC] using hB, h⟩
  | (i, 0) :: r, L, a, w, inv, hE, hB, h => by
    simp only [mixC, Bool.and_eq_true] at hB
    obtain ⟨⟨⟨hrd, hf⟩, hiE⟩, hB'⟩ := hB
    have hrd' : i ∈ Region.ready .any ops L := by simpa using hrd
    obtain ⟨o, v, ho, hy, h'⟩ := h
    have hiE' : E.contains i = false := by simpa using hiE
    have h2 := wpAnyE_mix hQ hsel r _ _ w (inv.set hrd') (fun e he => (hE e he).imp getD_set_true id) hB' h'
    exact wpAnyE_first (fun a _ => Yields P ops o v a) (effs r) ho hiE' (Region.noSelect_spec hsel) (fun c a w h => absurd h (hQ _ _ _)) (fun a w hy => yields_at hy w)
      (fun a w oj u hy hap hs => by obtain ⟨_, _, p3⟩ := Oper.apart_spec hap; exact hy.of_same (execOp_put o hs a oj.dst u p3) (wanted_put o a oj.dst u p3))
      (.inl fun a w hy => ⟨hy, fun _ _ h => h⟩) r.length L a w inv hE (Region.free_spec ho hf) hrd' hy h2
  | (i, 1) :: r, L, a, w, inv, hE, hB, h => by
    simp only [mixC, Bool.and_eq_true] at hB
    obtain ⟨⟨⟨⟨hrd, hf⟩, hiE⟩, hlt⟩, hB'⟩ := hB
    have hrd' : i ∈ Region.ready .any ops L := by simpa using hrd
    obtain ⟨o, v, ho, hy, h'⟩ := h
    have hiE' : E.contains i = false := by simpa using hiE
    have h2 := wpAnyE_mix hQ hsel r _ _ w (inv.set hrd') (fun e he => (hE e he).imp getD_set_true id) hB' h'
    exact wpAnyE_first (fun a w => YieldsAt P ops w o v a) (effs r) ho hiE' (Region.noSelect_spec hsel) (fun c a w h => absurd h (hQ _ _ _)) (fun a w hy => hy)
      (fun a w oj u hy hap hs => by obtain ⟨_, _, p3⟩ := Oper.apart_spec hap; exact hy.of_same (execOp_put o hs a oj.dst u p3) (wanted_put o a oj.dst u p3))
      (.inr fun L inv hun => late_spec inv hun (effs r) hlt) r.length L a w inv hE (Region.free_spec ho hf) hrd' hy h2
  | (i, k + 2) :: r, L, a, w, inv, hE, hB, h => by
    simp only [mixC, Bool.and_eq_true, decide_eq_true_eq] at hB
    obtain ⟨⟨hrd, hiE⟩, hB'⟩ := hB
    have hrd' : i ∈ Region.ready .any ops L := by rw [hrd]; simp
    refine ⟨fun h1 => (by rw [hrd] at h1; cases h1), fun j hj => ?_⟩
    rw [hrd] at hj
    have hji : j = i := by simpa using hj
    subst hji
    rw [hiE, if_pos rfl]
    refine wpOp_mono (fun a' w' h' => wpAnyE_mix hQ hsel r _ a' w' (inv.set hrd') (fun e he => ?_) hB' h') h
    by_cases hej : e = j
    · subst hej
      obtain ⟨_, o, ho, _⟩ := mem_ready.1 hrd'
      have : e < L.size := by rw [inv.size]; exact (Array.getElem?_eq_some_iff.1 ho).1
      exact .inl (by simp [this])
    · rcases hE e he with h1 | h1
      · exact .inl (getD_set_true h1)
      · simp only [effs] at h1
        rcases List.mem_cons.1 h1 with h1 | h1
        · exact absurd h1 hej
        · exact .inr h1

/-- only the normal end -/
def Only (Q : Exit → Act → World → Prop) : Exit → Act → World → Prop
  | .normal, a, w => Q .normal a w
  | _, _, _ => False
theorem wp_region_mix {id : Nat} {a : Act} {w : World} {l : List Oper} (r : List (Nat × Nat)) (hm : P.follows .mixedOrders = true) (hB : mixB l.toArray r = true)
    (h : wpMix P l.toArray (Only Q) r a (w.drewN 1)) : (Code.region id l.toArray true).wp P Q a w := by
  simp only [mixB, Bool.and_eq_true] at hB
  obtain ⟨⟨hsel, hsum⟩, hB⟩ := hB
  refine wp_mono (Q := Only Q) (wp_region_any hm ?_) ?_
  · have := wpAnyE_mix (P := P) (Q := Only Q) (fun _ _ _ h => h.elim) hsel r (Array.replicate l.toArray.size false) a (w.drewN 1)
      ⟨by simp, fun j oj _ hl => (by rw [getD_replicate_false] at hl; cases hl)⟩ (fun e he => .inr (by simpa using he)) hB h
    rw [Nat.eq_of_beq_eq_true hsum] at this
    exact wpAny_of_E _ _ _ _ this
  · intro e a w he
    cases e <;> first | exact he | exact he.elim

def pick1 : List Oper → Nat → Option Oper
  | [], _ => none
  | o :: _, 0 => some o
  | _ :: l, i + 1 => pick1 l i
theorem pick1_eq : ∀ (l : List Oper) (i : Nat), pick1 l i = l[i]?
  | [], i => by simp [pick1]
  | o :: l, 0 => by simp [pick1]
  | o :: l, i + 1 => by simp [pick1, pick1_eq l i]
theorem wpOp_of_wpList {i : Nat} {o : Oper} {K : Act → World → Prop} {a : Act} {w : World} (hi : ops[i]? = some o) (h : wpList P ops (Only (Exit.then K Q)) [o] a w) : wpOp P ops (Only Q) i K a w := by
  unfold wpOp
  simp only [hi]
  simp only [wpList] at h
  split at h
  · rename_i hw
    rw [if_pos hw]
    refine h.imp (fun h => ?_) (fun h => ⟨h.1, ?_⟩)
    · unfold Oper.wp at h ⊢
      generalize (execOp a.eval o).run P w = q at h ⊢
      cases q with
      | ok n w' =>
        cases n <;> simp only [Oper.upon] at h ⊢ <;> try exact h
      | halt x w' => cases x <;> simp only [Oper.upon] at h ⊢ <;> exact h
    · have := h.2
      exact absurd this (by simp [LetsOut, Only])
  · rename_i hw
    rw [if_neg hw]
    exact h
end
end Go.Eng
