/- Arguments as the engine has them, more: slices of structs, of whatever depth. -/
import Derived.Test.YtgmhldapndhoeaaOpenB
import Derived.Test.YtgmhldapndhoeaaEngS
set_option linter.unusedVariables false
set_option linter.unusedSimpArgs false
namespace Go.Proofs.Ytgmhldapndhoeaa
open Go Go.Eng Go.Proofs Go.NatM Go.ChangeShapes Go.WideShapes Go.ChangeAt Go.RowKit Go.Deep

def wts {α : Type} (wt : α → Nat) : List α → Nat
  | [] => 0
  | x :: l => wt x + wts wt l
theorem wts_mem {α : Type} {wt : α → Nat} {x : α} {l : List α} (h : x ∈ l) : wt x ≤ wts wt l := by
  induction l with
  | nil => cases h
  | cons y l ih =>
    simp only [wts]
    rcases List.mem_cons.1 h with rfl | h'
    · omega
    · have := ih h'; omega
theorem wts_bulk {H α : Type} {wt : α → Nat} (X : Nat → α) (D : Nat → DataW H) : ∀ is : List Nat, (∀ i ∈ is, wt (X i) ≤ Rows.uptoBulk (D i)) → wts wt (is.map X) ≤ Rows.uptoBulkAll (is.map D)
  | [], _ => by simp [wts]
  | i :: is, h => by
    have h1 := h i (by simp)
    have h2 := wts_bulk X D is (fun j hj => h j (by simp [hj]))
    simp only [List.map_cons, wts, Rows.uptoBulkAll]
    omega
/-- an int, by its cell -/
theorem open_i64c {H : Type} {enc : TypeId × Value → H} {P : Program} {t : TypeId} {W : World} {base : Nat} {spare : Nat → Bool} {held : Bool} {cs : List Value} {x : DataW H × List MemPlace} {fuel : Nat}
    (ht : P.underlying t = some (.int .i64)) (hf : DataW.trod enc P W base spare held fuel t cs = some x) : ∃ z : Int, cs = [.int .i64 z] ∧ -9223372036854775808 ≤ z ∧ z < 9223372036854775808 := by
  obtain ⟨m, rfl, _, hw⟩ := DataW.trod_int ht hf
  refine ⟨m, rfl, ?_⟩
  simp [Lit.wf, IntKind.min, IntKind.max, IntKind.signed, IntKind.bits] at hw
  omega
/-- a slice of words, by its cells -/
theorem open_u64d {H : Type} {enc : TypeId × Value → H} {P : Program} {t e : TypeId} {W : World} {base : Nat} {spare : Nat → Bool} {held : Bool} {cs : List Value} {x : DataW H × List MemPlace} {fuel : Nat}
    (ht : P.underlying t = some (.slice e)) (he : P.underlying e = some (.int .u64)) (hc : P.cellsOf e = 1) (hf : DataW.trod enc P W base spare held fuel t cs = some x) :
    ∃ y : SA Nat, cs = [sav y] ∧ Sl u64v W.heap W.heap.size y.A y.n y.c y.l ∧ U64 y.l ∧ y.n + 1 ≤ Rows.uptoBulk x.1 := by
  rcases DataW.trod_slice ht hf with ⟨rfl, _⟩ | ⟨a, len, cap, _, _, _, _, rfl, _⟩
  · obtain ⟨y, e1, r⟩ := open_u64c (d := x.1) (ps := x.2) ht he hc hf <;> exact ⟨y, by rw [e1], r⟩
  · obtain ⟨y, e1, r⟩ := open_u64c (d := x.1) (ps := x.2) ht he hc hf <;> exact ⟨y, by rw [e1], r⟩
/-- a slice of values of k cells -/
theorem open_elems {H α : Type} [Inhabited α] {enc : TypeId × Value → H} {P : Program} {t e : TypeId} {W : World} {base : Nat} {spare : Nat → Bool} {held : Bool} {cs : List Value} {x : DataW H × List MemPlace} {fuel k : Nat}
    (f : α → List Value) (G : α → Prop) (wt : α → Nat) (hk : 0 < k) (hf : ∀ y, (f y).length = k) (ht : P.underlying t = some (.slice e)) (hc : P.cellsOf e = k)
    (elem : ∀ n cs' x, DataW.trod enc P W base spare held n e cs' = some x → ∃ y, cs' = f y ∧ G y ∧ wt y ≤ Rows.uptoBulk x.1)
    (h : DataW.trod enc P W base spare held fuel t cs = some x) :
    ∃ A n c L, cs = [.slice A n c] ∧ Sm k f W.heap W.heap.size A n c L ∧ (∀ y ∈ L, G y) ∧ wts wt L + 1 ≤ Rows.uptoBulk x.1 ∧ n + 1 ≤ Rows.uptoBulk x.1 := by
  rcases open_slice ht h with ⟨rfl, rfl⟩ | ⟨a, len, cap, m, n, D, Pl, rfl, hb, hl, hm, hmm, rfl, hx⟩
  · exact ⟨none, 0, 0, [], rfl, Sm.nil hk _ _ _ _ _, fun y hy => (by cases hy), by simp [wts, Rows.uptoBulk], by simp [Rows.uptoBulk]⟩
  · have hlm : len ≤ m := by split at hmm <;> omega
    rw [hc] at hx
    obtain ⟨X, hX⟩ := choose_lt (n := len) (p := fun i (y : α) => W.cells? base (a.add (i * k)) k = some (f y) ∧ G y ∧ wt y ≤ Rows.uptoBulk (D i)) (fun i hi => by
      obtain ⟨cs', h1, h2⟩ := hx i (by omega)
      obtain ⟨y, rfl, g1, g2⟩ := elem n cs' _ h2
      exact ⟨y, h1, g1, g2⟩)
    refine ⟨some a, len, cap, (List.range len).map X, rfl, ⟨by simp, hl, hk, fun y hy => hf y, ?_⟩, ?_, ?_, ?_⟩
    · rcases Nat.eq_zero_or_pos len with h0 | h0
      · exact .inl h0
      · have hc0 := (hX 0 (by omega)).1
        obtain ⟨_, hl0, hc0⟩ := World.cells?_some hc0
        have hc1 := hc0 0 hk
        obtain ⟨v0, hv0⟩ : ∃ v0, (f (X 0))[0]? = some v0 := ⟨_, List.getElem?_eq_getElem (by rw [hf]; exact hk)⟩
        rw [hv0] at hc1
        have e0 : (a.add (0 * k)).add 0 = a := by simp [Addr.add]
        rw [e0] at hc1
        have hs := spot_none hc1
        refine .inr ⟨a.block, a.off, by rw [← hs], World.block_lt_of_cell? W a hc1, fun j y hy q v hv => ?_⟩
        have hj : j < len := by
          have := (List.getElem?_eq_some_iff.1 hy).1
          simpa using this
        rw [List.getElem?_map, List.getElem?_range hj] at hy
        simp at hy
        subst hy
        obtain ⟨_, hlj, hcj⟩ := World.cells?_some (hX j hj).1
        have hq : q < k := by have := (List.getElem?_eq_some_iff.1 hv).1; rwa [hf] at this
        have := hcj q hq
        rw [hv, hs, add_mk, add_mk, cell_of_hcell, Nat.add_assoc] at this
        exact this
    · intro y hy
      obtain ⟨i, hi, rfl⟩ := List.mem_map.1 hy
      exact (hX i (List.mem_range.1 hi)).2.1
    · have := wts_bulk X D (List.range len) (fun i hi => (hX i (List.mem_range.1 hi)).2.2)
      simp only [Rows.uptoBulk]
      omega
    · have h1 := bulk_length ((List.range len).map D)
      simp only [List.length_map, List.length_range] at h1
      simp only [Rows.uptoBulk]
      omega
end Go.Proofs.Ytgmhldapndhoeaa
