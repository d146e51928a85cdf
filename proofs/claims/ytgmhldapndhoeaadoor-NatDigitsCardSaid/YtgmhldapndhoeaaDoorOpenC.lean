/- Arguments as the engine has them, more: slices of ints. -/
import Derived.Test.YtgmhldapndhoeaaDoorOpen
set_option linter.unusedVariables false
set_option linter.unusedSimpArgs false
namespace Go.Proofs.YtgmhldapndhoeaaDoor
open Go Go.Eng Go.Proofs Go.NatM Go.ChangeShapes Go.WideShapes Go.ChangeAt Go.RowKit

/-- a slice of ints that came in -/
theorem open_i64s {H : Type} {enc : TypeId × Value → H} {P : Program} {t e : TypeId} {W : World} {base base' : Nat} {spare : Nat → Bool} {held : Bool} {v : Value} {d : DataW H} {ps : List MemPlace}
    (ht : P.underlying t = some (.slice e)) (he : P.underlying e = some (.int .i64)) (hc : P.cellsOf e = 1) (hv : Value.okWide P W .any base' t v) (h : DataW.Trod enc P W base spare held t v d ps) :
    ∃ A n c l, v = .slice A n c ∧ Sl i64v W.heap W.heap.size A n c l ∧ (∀ z ∈ l, -9223372036854775808 ≤ z ∧ z < 9223372036854775808) ∧ ((n = 0 ∧ c = 0) ∨ ∃ el sp, d = .slice el sp ∧ n ≤ el.length) := by
  obtain ⟨A, n, c, rfl⟩ := okWide_slice ht hv
  obtain ⟨fuel, hf⟩ := h
  rcases open_ints ht he hc hf with ⟨hcs, hx⟩ | ⟨a, len, cap, zs, hcs, hb, hl, hm, hz, hx, hcell, hwz⟩
  · simp [Value.cells] at hcs
    obtain ⟨rfl, rfl, rfl⟩ := hcs
    exact ⟨none, 0, 0, [], rfl, Sl.nil _ _ _ _ _, (fun z hz => by cases hz), .inl ⟨rfl, rfl⟩⟩
  · simp [Value.cells] at hcs
    obtain ⟨rfl, rfl, rfl⟩ := hcs
    have hlen : n ≤ zs.length := by split at hz <;> omega
    have hr : ∀ z ∈ zs, -9223372036854775808 ≤ z ∧ z < 9223372036854775808 := fun z hz' => by
      have := hwz z hz'
      simp [Lit.wf, IntKind.min, IntKind.max, IntKind.signed, IntKind.bits] at this
      omega
    refine ⟨some a, n, c, zs.take n, rfl, ⟨by simp; omega, hl, ?_⟩, fun z hz' => hr z (List.mem_of_mem_take hz'), .inr ⟨_, _, (Prod.mk.inj hx).1, by simp [lits]; omega⟩⟩
    rcases Nat.eq_zero_or_pos n with h0 | h0
    · exact .inl h0
    · have hc0 := hcell 0 (by omega)
      have ha0 : a.add 0 = a := by simp [Addr.add]
      rw [ha0] at hc0
      have hs := spot_none hc0
      refine .inr ⟨a.block, a.off, by rw [← hs], World.block_lt_of_cell? W a hc0, fun j x hx' => ?_⟩
      have hj : j < n := by
        have := (List.getElem?_eq_some_iff.1 hx').1
        simp at this; omega
      have hcj := hcell j (by omega)
      rw [hs, add_mk, cell_of_hcell] at hcj
      rw [hcj]
      rw [List.getElem?_take, if_pos hj] at hx'
      simp [List.getD, hx', i64v]
/-- the reach of a slice of ints -/
theorem reach_i64s {H : Type} {P : Program} {ts : List TypeId} {ds : List (DataW H)} (h : (DataW.weightsEach P ts ds).all (· ≤ reachBytes) = true) {j : Nat} {t e : TypeId} {d : DataW H} (hj : ts[j]? = some t) (hd : ds[j]? = some d)
    (ht : P.underlying t = some (.slice e)) (hb : P.bytesOf e = 8) {n c : Nat} (hn : (n = 0 ∧ c = 0) ∨ ∃ el sp, d = .slice el sp ∧ n ≤ el.length) : n ≤ 17592186043904 := reach_u64s h hj hd ht hb hn
end Go.Proofs.YtgmhldapndhoeaaDoor
