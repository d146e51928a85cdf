/- The engine: regions whose order is drawn, under a condition on the world that all effects keep. -/
import Derived.Test.YtgmhldapndhoeaaEngD
import Derived.OrdersHeld
set_option linter.unusedVariables false
set_option linter.unusedSimpArgs false
namespace Go.Eng
open Go Go.RowKit

/-- kind 0: taken first; others: an effect that stands alone when its turn comes -/
def heldC (ops : Array Oper) : List (Nat × Nat) → Array Bool → Bool
  | [], L => (Region.ready .any ops L).isEmpty
  | (i, 0) :: r, L => (Region.ready .any ops L).contains i && Region.free .any ops L i && heldC ops r (L.setIfInBounds i true)
  | (i, _ + 1) :: r, L => decide (Region.ready .any ops L = [i]) && heldC ops r (L.setIfInBounds i true)
def heldB (ops : Array Oper) (r : List (Nat × Nat)) : Bool := Region.noSelect ops && Nat.beq r.length ops.size && heldC ops r (Array.replicate ops.size false)
def wpHeld (P : Program) (ops : Array Oper) (Q : Exit → Act → World → Prop) (S : World → Prop) : List (Nat × Nat) → Act → World → Prop
  | [], a, w => Q .normal a w
  | (i, 0) :: r, a, w => ∃ o v, ops[i]? = some o ∧ YieldsIf P ops S o v a ∧ wpHeld P ops Q S r (a.put o.dst v) w
  | (i, _ + 1) :: r, a, w => wpOp P ops Q i (fun a' w' => S w' ∧ wpHeld P ops Q S r a' w') a w
section
variable {P : Program} {ops : Array Oper} {Q : Exit → Act → World → Prop} {S : World → Prop}
theorem wpAnyH_held (hQ : ∀ c a w, ¬ Q (.panic c) a w) (hsel : Region.noSelect ops = true) : ∀ (r : List (Nat × Nat)) (L : Array Bool) (a : Act) (w : World), heldC ops r L = true → S w → wpHeld P ops Q S r a w → wpAnyH P .any ops Q S r.length L a w
  | [], L, a, w, hB, hS, h => ⟨by simpa [heldC] using hB, h⟩
  | (i, 0) :: r, L, a, w, hB, hS, h => by
    simp only [heldC, Bool.and_eq_true] at hB
    obtain ⟨⟨hrd, hf⟩, hB'⟩ := hB
    obtain ⟨o, v, ho, hy, h'⟩ := h
    exact wpAnyH_take ho hsel hf hrd (fun c a w h => absurd h (hQ _ _ _)) hy hS (wpAnyH_held hQ hsel r _ _ w hB' hS h')
  | (i, k + 1) :: r, L, a, w, hB, hS, h => by
    simp only [heldC, Bool.and_eq_true, decide_eq_true_eq] at hB
    obtain ⟨hrd, hB'⟩ := hB
    refine wpAnyH_all hrd (by simp) fun j hj => ?_
    have hji : j = i := by simpa using hj
    subst hji
    exact wpOp_mono (fun a' w' h' => ⟨h'.1, wpAnyH_held hQ hsel r _ a' w' hB' h'.1 h'.2⟩) h
theorem wp_region_heldB {id : Nat} {a : Act} {w : World} {l : List Oper} (r : List (Nat × Nat)) (hm : P.follows .mixedOrders = true) (hB : heldB l.toArray r = true) (hS : S (w.drewN 1))
    (h : wpHeld P l.toArray (Only Q) S r a (w.drewN 1)) : (Code.region id l.toArray true).wp P Q a w := by
  simp only [heldB, Bool.and_eq_true] at hB
  obtain ⟨⟨hsel, hsum⟩, hB⟩ := hB
  refine wp_mono (Q := Only Q) (wp_region_held (S := S) hm ?_) ?_
  · have := wpAnyH_held (P := P) (Q := Only Q) (S := S) (fun _ _ _ h => h.elim) hsel r (Array.replicate l.toArray.size false) a (w.drewN 1) hB hS h
    rw [Nat.eq_of_beq_eq_true hsum] at this
    exact this
  · intro e a w he
    cases e <;> first | exact he | exact he.elim
end

/-- a region whose order is drawn, in the order of r, under S -/
def TH (P : Program) (N : Nat) (l : List Oper) (Q : Exit → Act → World → Prop) (S : World → Prop) (r : List (Nat × Nat)) (σ : Store) (w : World) : Prop :=
  ∀ a, Rep N σ a → wpHeld P l.toArray (Only Q) S r a w
def HeldK (P : Program) (l : List Oper) (Q : Exit → Act → World → Prop) (S : World → Prop) (r : List (Nat × Nat)) (a : Act) (w : World) : Prop := S w ∧ wpHeld P l.toArray (Only Q) S r a w
section
variable {P : Program} {N : Nat} {Q : Exit → Act → World → Prop} {S : World → Prop} {σ : Store} {w : World} {l : List Oper}
theorem T.regionH (S : World → Prop) {id : Nat} (r : List (Nat × Nat)) (hm : P.follows .mixedOrders = true) (hB : heldB l.toArray r = true) (hS : S (w.drewN 1)) (h : TH P N l Q S r σ (w.drewN 1)) : T P N (.region id l.toArray true) Q σ w := by
  unfold T
  exact fun a ha => wp_region_heldB (S := S) r hm hB hS (h a ha)
theorem TH.nil (h : G N .normal Q σ w) : TH P N l Q S [] σ w := by
  unfold G at h
  exact fun a ha => h a ha
theorem TH.s {i : Nat} {r : List (Nat × Nat)} {d : Nat} {op : Op} {t : TypeId} {pos : String} {af : Array Edge} {v : Value} (hi : pick1 l i = some ⟨some d, op, t, pos, af, none⟩)
    (h : ∀ w', S w' → Ev P σ w'.heap ⟨some d, op, t, pos, af, none⟩ v) (hd : Nat.blt d N = true) (k : TH P N l Q S r ((d, v) :: σ) w) : TH P N l Q S ((i, 0) :: r) σ w := fun a ha =>
  ⟨_, v, pick_at hi, .inl ⟨by simp [Region.wanted], fun w' hw' => by have := h w' hw'; unfold Ev at this; exact this _ w' ha.agree rfl⟩, k _ (ha.put hd v)⟩
theorem TH.e {i k : Nat} {r : List (Nat × Nat)} {o : Oper} (hi : pick1 l i = some o) (h : TL P N .seq l.toArray (Only (Exit.then (HeldK P l Q S r) Q)) [o] σ w) : TH P N l Q S ((i, k + 1) :: r) σ w := fun a ha => by
  unfold TL at h
  exact wpOp_of_wpList (pick_at hi) (h a ha)
theorem G.held {r : List (Nat × Nat)} (hS : S w) (h : TH P N l Q S r σ w) : G N .normal (Exit.then (HeldK P l Q S r) Q) σ w := by
  unfold G
  exact fun a ha => ⟨hS, h a ha⟩
end
attribute [irreducible] TH HeldK
end Go.Eng
