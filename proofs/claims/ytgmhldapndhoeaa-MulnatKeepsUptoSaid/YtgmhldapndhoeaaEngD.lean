/- The engine: ints that are natural numbers, in memory. -/
import Derived.Test.YtgmhldapndhoeaaEngB
set_option linter.unusedVariables false
set_option linter.unusedSimpArgs false
namespace Go.Eng
open Go Go.RowKit

def n64v (x : Nat) : Value := .int .i64 (x : Int)
section
variable {P : Program} {σ : Store} {H : Array Obj} {d : Option Tmp} {t : TypeId} {pos : String} {af : Array Edge} {gd : Option (Nat × Bool)}
theorem ev_loadN {x : Operand} {ty : TypeId} [hO : UOne P ty] {B n c k : Nat} {A : Option Addr} {l : List Nat}
    (hx : look σ x = some (.pointer (elemA A k))) (hs : Sl n64v H B A n c l) (hk : k < n) : Ev P σ H ⟨d, .load ty x, t, pos, af, gd⟩ (.int .i64 ((l.getD k 0 : Nat) : Int)) :=
  ev_loadSl (f := n64v) hx hs (getD_some 0 (by rw [hs.len]; exact hk))
end
section
variable {P : Program} {N : Nat} {Q : Exit → Act → World → Prop} {σ : Store} {w : World} {ops : Array Oper} {d : Nat} {t : TypeId} {pos : String} {af : Array Edge} {rest : List Oper}
theorem TL.makeN {x y : Operand} {ty e : TypeId} [hT : USlice P ty e] {b1 : Nat} [hS : USize P e (.int .i64 0) 1 b1] {k k' : IntKind} {z1 z2 : Int} {n c : Nat} [e1 : IsN z1 n] [e2 : IsN z2 c]
    (hx : look σ x = some (.int k z1)) (hy : look σ y = some (.int k' z2)) (hd : Nat.blt d N = true) (hn : n ≤ c) (hc : b1 * c ≤ 281474976710656 ∧ c ≤ 9223372036854775807)
    (K : ∀ w' b, b = w.heap.size → Bk n64v w'.heap b e (List.replicate c 0) → Ext w w' → w'.heap.size = w.heap.size + 1 → TL P N .seq ops Q rest ((d, .slice (some ⟨b, 0, none⟩) n c) :: σ) w') :
    TL P N .seq ops Q (⟨some d, .makeSlice ty x y, t, pos, af, none⟩ :: rest) σ w := TL.make n64v 0 rfl rfl hx hy hd hn hc K
theorem TL.build1N {x : Operand} {ty e : TypeId} [hT : USlice P ty e] {b1 : Nat} [hS : USize P e (.int .i64 0) 1 b1] {z1 : Int} {u : Nat} [e1 : IsN z1 u] (hx : look σ x = some (.int .i64 z1)) (hd : Nat.blt d N = true)
    (K : ∀ w' b, b = w.heap.size → Bk n64v w'.heap b e [u] → Ext w w' → w'.heap.size = w.heap.size + 1 → TL P N .seq ops Q rest ((d, .slice (some ⟨b, 0, none⟩) 1 1) :: σ) w') :
    TL P N .seq ops Q (⟨some d, .buildSlice ty 1 #[(0, x)], t, pos, af, none⟩ :: rest) σ w := TL.build1 (f := n64v) (fun _ => rfl) rfl (by rw [hx, e1.out]; rfl) hd K
theorem TL.storeN {x y : Operand} {ty e : TypeId} {z0 : Value} {b1 : Nat} [hS : USize P ty z0 1 b1] {b k : Nat} {l : List Nat} {zu : Int} {u : Nat} [eu : IsN zu u]
    (hx : look σ x = some (.pointer (elemA (some ⟨b, 0, none⟩) k))) (hy : look σ y = some (.int .i64 zu)) (hB : Bk n64v w.heap b e l) (hk : k < l.length)
    (K : ∀ w', Bk n64v w'.heap b e (l.set k u) → Upd b w w' → TL P N .seq ops Q rest σ w') :
    TL P N .seq ops Q (⟨none, .store ty x y, t, pos, af, none⟩ :: rest) σ w := by
  have := TL.store (P := P) (N := N) (ops := ops) (Q := Q) (rest := rest) (ty := ty) (t := t) (pos := pos) (af := af) (f := n64v) (o := 0) (k := k) (u := u) rfl rfl (by rw [hx]; simp [elemA, add_mk]) (by rw [hy, eu.out]; rfl) hB (by omega)
  rw [Nat.zero_add] at this
  exact this K
/-- the head of a block that is known whole -/
theorem ow_head {α : Type} {f : α → Value} {H : Array Obj} {b lo c : Nat} {e : TypeId} {l : List α} (h : Bk f H b e l) (hc : c = l.length) (hm : l.length ≤ maxLen) (hlo : lo ≤ b) : Ow f H lo e (some ⟨b, 0, none⟩) 0 c [] := by
  have := h.ow (lo := lo) (k := 0) (c := c) (Nat.zero_le _) hc hm hlo
  simpa using this
end
end Go.Eng
