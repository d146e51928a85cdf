/- Arguments as the engine has them, more: slices of slices of words. -/
import Derived.Test.YtgmhldapndhoeaaSmall
import Derived.Test.YtgmhldapndhoeaaMulH
import Derived.Deep.Slices
set_option linter.unusedVariables false
set_option linter.unusedSimpArgs false
namespace Go.Proofs.Ytgmhldapndhoeaa
open Go Go.Eng Go.Proofs Go.NatM Go.ChangeShapes Go.WideShapes Go.ChangeAt Go.RowKit Go.Deep

/-- a slice of words, by its cells -/
theorem open_u64c {H : Type} {enc : TypeId × Value → H} {P : Program} {t e : TypeId} {W : World} {base : Nat} {spare : Nat → Bool} {held : Bool} {v : Value} {d : DataW H} {ps : List MemPlace} {fuel : Nat}
    (ht : P.underlying t = some (.slice e)) (he : P.underlying e = some (.int .u64)) (hc : P.cellsOf e = 1) (hf : DataW.trod enc P W base spare held fuel t [v] = some (d, ps)) :
    ∃ x : SA Nat, v = sav x ∧ Sl u64v W.heap W.heap.size x.A x.n x.c x.l ∧ U64 x.l ∧ x.n + 1 ≤ Rows.uptoBulk d := by
  rcases open_ints ht he hc hf with ⟨hcs, hx⟩ | ⟨a, len, cap, zs, hcs, hb, hl, hm, hz, hx, hcell, hwz⟩
  · cases hcs
    cases hx
    exact ⟨⟨none, 0, 0, []⟩, rfl, Sl.nil _ _ _ _ _, U64.nil, bulk_one _⟩
  · cases hcs
    cases hx
    have hlen : len ≤ zs.length := by split at hz <;> omega
    have hr : ∀ z ∈ zs, 0 ≤ z ∧ z < 18446744073709551616 := fun z hz' => by
      have := hwz z hz'
      simp [Lit.wf, IntKind.min, IntKind.max, IntKind.signed, IntKind.bits] at this
      omega
    refine ⟨⟨some a, len, cap, (zs.take len).map Int.toNat⟩, rfl, ⟨by simp; omega, hl, ?_⟩, ?_, ?_⟩
    · rcases Nat.eq_zero_or_pos len with h0 | h0
      · exact .inl h0
      · have hc0 := hcell 0 (by omega)
        have ha0 : a.add 0 = a := by simp [Addr.add]
        rw [ha0] at hc0
        have hs := spot_none hc0
        refine .inr ⟨a.block, a.off, by rw [← hs], World.block_lt_of_cell? W a hc0, fun j x hx' => ?_⟩
        have hj : j < len := by
          have := (List.getElem?_eq_some_iff.1 hx').1
          simp at this; omega
        have hcj := hcell j (by omega)
        rw [hs, add_mk, cell_of_hcell] at hcj
        rw [hcj]
        have e1 : (zs.take len).getD j 0 = zs.getD j 0 := by simp [List.getD, List.getElem?_take, hj]
        have e2 := getD_map_toNat (zs.take len) (fun z hz' => (hr z (List.mem_of_mem_take hz')).1) j (by simp; omega)
        rw [hx', e1] at e2
        simp at e2
        show some (Value.int .u64 _) = some (Value.int .u64 _)
        simp only [List.getD] at e2 ⊢
        rw [← e2]
    · intro x hx'
      obtain ⟨z, hz', rfl⟩ := List.mem_map.1 hx'
      have := hr z (List.mem_of_mem_take hz')
      omega
    · have h1 := bulk_length (lits (H := H) .u64 (zs.take len))
      have h2 : (lits (H := H) .u64 (zs.take len)).length = len := by simp [lits]; omega
      simp only [Rows.uptoBulk]
      show len + 1 ≤ _
      omega
theorem tot_bulk {H : Type} (X : Nat → SA Nat) (D : Nat → DataW H) : ∀ is : List Nat, (∀ i ∈ is, (X i).n + 1 ≤ Rows.uptoBulk (D i)) → tot (is.map X) + is.length ≤ Rows.uptoBulkAll (is.map D)
  | [], _ => by simp [tot]
  | i :: is, h => by
    have h1 := h i (by simp)
    have h2 := tot_bulk X D is (fun j hj => h j (by simp [hj]))
    simp only [List.map_cons, tot, Rows.uptoBulkAll, List.length_cons]
    omega
/-- a slice of slices of words that came in -/
theorem open_ssc {H : Type} {enc : TypeId × Value → H} {P : Program} {t e q : TypeId} {W : World} {base : Nat} {spare : Nat → Bool} {held : Bool} {v : Value} {d : DataW H} {ps : List MemPlace} {fuel : Nat}
    (ht : P.underlying t = some (.slice e)) (he : P.underlying e = some (.slice q)) (hq : P.underlying q = some (.int .u64)) (hc : P.cellsOf e = 1) (hcq : P.cellsOf q = 1) (hf : DataW.trod enc P W base spare held fuel t [v] = some (d, ps)) :
    ∃ A n c L, v = .slice A n c ∧ Sl sav W.heap W.heap.size A n c L ∧ LS W.heap W.heap.size L ∧ tot L + n + 1 ≤ Rows.uptoBulk d := by
  rcases open_slice1 ht hc hf with ⟨hcs, hx⟩ | ⟨a, len, cap, m, fu, V, D, Pl, hcs, hb, hl, hm, hmm, hx, hcell⟩
  · cases hcs
    cases hx
    exact ⟨none, 0, 0, [], rfl, Sl.nil _ _ _ _ _, fun x hx => (by cases hx), by simpa [tot] using bulk_one (H := H) .nil⟩
  · cases hcs
    cases hx
    have hlm : len ≤ m := by split at hmm <;> omega
    obtain ⟨X, hX⟩ := choose_lt (n := len) (p := fun i (x : SA Nat) => V i = sav x ∧ Sl u64v W.heap W.heap.size x.A x.n x.c x.l ∧ U64 x.l ∧ x.n + 1 ≤ Rows.uptoBulk (D i)) (fun i hi => open_u64c he hq hcq (hcell i (by omega)).2)
    refine ⟨some a, len, cap, (List.range len).map X, rfl, ⟨by simp, hl, ?_⟩, ?_, ?_⟩
    · rcases Nat.eq_zero_or_pos len with h0 | h0
      · exact .inl h0
      · have hc0 := (hcell 0 (by omega)).1
        have ha0 : a.add 0 = a := by simp [Addr.add]
        rw [ha0] at hc0
        have hs := spot_none hc0
        refine .inr ⟨a.block, a.off, by rw [← hs], World.block_lt_of_cell? W a hc0, fun j x hx' => ?_⟩
        have hj : j < len := by
          have := (List.getElem?_eq_some_iff.1 hx').1
          simpa using this
        have hcj := (hcell j (by omega)).1
        rw [hs, add_mk, cell_of_hcell, (hX j hj).1] at hcj
        rw [List.getElem?_map, List.getElem?_range hj] at hx'
        simp at hx'
        subst hx'
        exact hcj
    · intro x hx
      obtain ⟨i, hi, rfl⟩ := List.mem_map.1 hx
      have := hX i (List.mem_range.1 hi)
      exact ⟨this.2.1, this.2.2.1⟩
    · have := tot_bulk X D (List.range len) (fun i hi => (hX i (List.mem_range.1 hi)).2.2.2)
      simp only [List.length_range] at this
      simp only [Rows.uptoBulk]
      omega
theorem open_ss {H : Type} {enc : TypeId × Value → H} {P : Program} {t e q : TypeId} {W : World} {base base' : Nat} {spare : Nat → Bool} {held : Bool} {v : Value} {d : DataW H} {ps : List MemPlace}
    (ht : P.underlying t = some (.slice e)) (he : P.underlying e = some (.slice q)) (hq : P.underlying q = some (.int .u64)) (hc : P.cellsOf e = 1) (hcq : P.cellsOf q = 1) (hv : Value.okWide P W .any base' t v) (h : DataW.Trod enc P W base spare held t v d ps) :
    ∃ A n c L, v = .slice A n c ∧ Sl sav W.heap W.heap.size A n c L ∧ LS W.heap W.heap.size L ∧ tot L + n + 1 ≤ Rows.uptoBulk d := by
  obtain ⟨A, n, c, rfl⟩ := okWide_slice ht hv
  obtain ⟨fuel, hf⟩ := h
  exact open_ssc ht he hq hc hcq (by simpa [Value.cells] using hf)
theorem small_ss {n : Nat} {L : List (SA Nat)} {b : Nat} (h : b ≤ 1048576) (hn : tot L + n + 1 ≤ b) : tot L + n ≤ 1048576 := by omega
end Go.Proofs.Ytgmhldapndhoeaa
