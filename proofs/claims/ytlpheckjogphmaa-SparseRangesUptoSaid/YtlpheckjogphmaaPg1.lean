/- A region whose order is drawn: a walk in one order, where each operation is of one of three kinds: 0 looks at no memory, 1 only reads and comes before all later effects, 2 an effect, which stands alone when its turn comes. -/
import Derived.StillTail
import Derived.Deep.Draws
set_option linter.unusedVariables false
set_option linter.unusedSimpArgs false
namespace Go.Eng
open Go

section
variable {P : Program} {ops : Array Oper} {Q : Exit → Act → World → Prop}

structure CInv (ops : Array Oper) (L : Array Bool) : Prop where
  size : L.size = ops.size
  closed : ∀ j oj, ops[j]? = some oj → L.getD j false = true → ∀ e ∈ oj.after, Region.binds .any e = true → L.getD e.on false = true
theorem CInv.set {i : Nat} {L : Array Bool} (inv : CInv ops L) (hi : i ∈ Region.ready .any ops L) : CInv ops (L.setIfInBounds i true) := by
  obtain ⟨_, oi, hoi, hall⟩ := mem_ready.1 hi
  refine ⟨by simp [inv.size], fun j oj hj hl e he hb => ?_⟩
  by_cases hij : i = j
  · subst hij
    have : oj = oi := Option.some.inj (hj.symm.trans hoi)
    subst this
    exact getD_set_true (hall e he hb)
  · rw [getD_set_ne false hij] at hl
    exact getD_set_true (inv.closed j oj hj hl e he hb)
/-- the walk in one order -/
def wpMix (P : Program) (ops : Array Oper) (Q : Exit → Act → World → Prop) : List (Nat × Nat) → Act → World → Prop
  | [], a, w => Q .normal a w
  | (i, 0) :: r, a, w => ∃ o v, ops[i]? = some o ∧ Yields P ops o v a ∧ wpMix P ops Q r (a.put o.dst v) w
  | (i, 1) :: r, a, w => ∃ o v, ops[i]? = some o ∧ YieldsAt P ops w o v a ∧ wpMix P ops Q r (a.put o.dst v) w
  | (i, _ + 2) :: r, a, w => wpOp P ops Q i (wpMix P ops Q r) a w
/-- only the normal end -/
def Only (Q : Exit → Act → World → Prop) : Exit → Act → World → Prop
  | .normal, a, w => Q .normal a w
  | _, _, _ => False
def pick1 : List Oper → Nat → Option Oper
  | [], _ => none
  | o :: _, 0 => some o
  | _ :: l, i + 1 => pick1 l i
theorem pick1_eq : ∀ (l : List Oper) (i : Nat), pick1 l i = l[i]?
  | [], i => by simp [pick1]
  | o :: l, 0 => by simp [pick1]
  | o :: l, i + 1 => by simp [pick1, pick1_eq l i]
theorem wpOp_of_wpList {i : Nat} {o : Oper} {K : Act → World → Prop} {a : Act} {w : World} (hi : ops[i]? = some o) (h : wpList P ops (Only (Exit.then K Q)) [o] a w) : wpOp P ops (Only Q) i K a w := by
  unfold wpOp
  simp only [hi]
  simp only [wpList] at h
  split at h
  · rename_i hw
    rw [if_pos hw]
    refine h.imp (fun h => ?_) (fun h => ⟨h.1, ?_⟩)
    · unfold Oper.wp at h ⊢
      generalize (execOp a.eval o).run P w = q at h ⊢
      cases q with
      | ok n w' =>
        cases n <;> simp only [Oper.upon] at h ⊢ <;> try exact h
      | halt x w' => cases x <;> simp only [Oper.upon] at h ⊢ <;> exact h
    · have := h.2
      exact absurd this (by simp [LetsOut, Only])
  · rename_i hw
    rw [if_neg hw]
    exact h
end
end Go.Eng
