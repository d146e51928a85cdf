/- The walk of NatOrder. -/
import Derived.Test.YtgmhldapndhoeaaDoorLawA
set_option linter.unusedVariables false
set_option linter.unusedSimpArgs false
namespace Go.Proofs.YtgmhldapndhoeaaDoor
open Go Go.Eng Go.Proofs Go.NatM

theorem cmp_eq (H : Array Obj) (B B' : Nat) (A A' : Option Addr) (n c n' c' : Nat) (l l' : List Nat) (hs : Sl u64v H B A n c l) (hs' : Sl u64v H B' A' n' c' l') (hu : U64 l) (hu' : U64 l') (hn : n ≤ 35184372088832) (hn' : n' ≤ 35184372088832) {q : Int} (hq : cmp3 (val l) (val l') = q) :
    Pure Tryd.prog 29 #[.slice A n c, .slice A' n' c'] H (.int .i64 q) := by rw [← hq]; exact cmp_ok H B B' A A' n c n' c' l l' hs hs' hu hu' hn hn'
theorem cmp3_spec (x y : Nat) : ∃ q, cmp3 x y = q ∧ (-1 ≤ q ∧ q ≤ 1) ∧ (q < 0 ↔ x < y) ∧ (0 < q ↔ y < x) ∧ (q = 0 ↔ x = y) := by
  refine ⟨_, rfl, ?_⟩
  unfold cmp3
  split
  · omega
  · split <;> omega
end Go.Proofs.YtgmhldapndhoeaaDoor
