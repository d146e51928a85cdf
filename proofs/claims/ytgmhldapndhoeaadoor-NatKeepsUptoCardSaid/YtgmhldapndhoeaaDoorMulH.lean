/- Layer 2: contract of mulnat.Product. -/
import Derived.Test.YtgmhldapndhoeaaDoorMulG
set_option linter.unusedVariables false
set_option linter.unusedSimpArgs false
namespace Go.Proofs.YtgmhldapndhoeaaDoor
open Go Go.Eng Go.Proofs Go.NatM

/-- the words of each -/
def LS (H : Array Obj) (B : Nat) (L : List (SA Nat)) : Prop := ∀ x ∈ L, Sl u64v H B x.A x.n x.c x.l ∧ U64 x.l
theorem LS.ext {w w' : World} {B : Nat} {L : List (SA Nat)} (hb : Ext w w') (h : LS w.heap B L) : LS w'.heap B L := fun x hx => ⟨(h x hx).1.ext hb, (h x hx).2⟩
theorem LS.take {H : Array Obj} {B : Nat} {L : List (SA Nat)} (h : LS H B L) (k : Nat) : LS H B (L.take k) := fun x hx => h x (List.mem_of_mem_take hx)
theorem LS.drop {H : Array Obj} {B : Nat} {L : List (SA Nat)} (h : LS H B L) (k : Nat) : LS H B (L.drop k) := fun x hx => h x (List.mem_of_mem_drop hx)
def tot : List (SA Nat) → Nat
  | [] => 0
  | x :: L => x.n + tot L
def prodV : List (SA Nat) → Nat
  | [] => 1
  | x :: L => val x.l * prodV L
theorem tot_append (L R : List (SA Nat)) : tot (L ++ R) = tot L + tot R := by
  induction L with
  | nil => simp [tot]
  | cons x L ih => simp only [List.cons_append, tot, ih]; omega
theorem prodV_append (L R : List (SA Nat)) : prodV (L ++ R) = prodV L * prodV R := by
  induction L with
  | nil => simp [prodV]
  | cons x L ih => simp only [List.cons_append, prodV, ih, Nat.mul_assoc]
theorem prodV_lt {H : Array Obj} {B : Nat} : ∀ {L : List (SA Nat)}, LS H B L → prodV L ≤ 18446744073709551616 ^ tot L
  | [], _ => by simp [prodV, tot]
  | x :: L, h => by
    have h1 := h x (by simp)
    have h2 := prodV_lt (L := L) (fun y hy => h y (by simp [hy]))
    have h3 := val_lt h1.2
    rw [h1.1.len] at h3
    simp only [prodV, tot, Nat.pow_add]
    exact Nat.mul_le_mul (Nat.le_of_lt h3) h2
theorem prodV_len {H : Array Obj} {B : Nat} {L : List (SA Nat)} (h : LS H B L) : (dig (prodV L)).length ≤ tot L + 1 := by
  refine dig_length_le ?_
  have h1 := prodV_lt h
  rw [Nat.pow_succ]
  have h2 : 0 < 18446744073709551616 ^ tot L := Nat.pow_pos (by omega)
  omega

theorem lprod_two {L : List (SA Nat)} (k : Nat) : prodV (L.take k) * prodV (L.drop k) = prodV L ∧ tot (L.take k) + tot (L.drop k) = tot L := by
  rw [← prodV_append, ← tot_append, List.take_append_drop]; exact ⟨rfl, rfl⟩

end Go.Proofs.YtgmhldapndhoeaaDoor
