/- From a law's row to its walk: arguments as the engine has them. -/
import Derived.Test.YtgmhldapndhoeaaTypes
import Derived.Test.YtgmhldapndhoeaaMath
import Derived.ProofKit
import Derived.OpenShut
import Derived.ChangeOld
import Derived.SizedLaws
set_option linter.unusedVariables false
set_option linter.unusedSimpArgs false
namespace Go.Proofs.Ytgmhldapndhoeaa
open Go Go.Eng Go.Proofs Go.NatM Go.ChangeShapes Go.WideShapes Go.ChangeAt Go.RowKit

theorem spot_none {w : World} {a : Addr} {v : Value} (h : w.cell? a = some v) : a = ⟨a.block, a.off, none⟩ := by
  cases a with
  | mk b o s =>
    cases s with
    | none => rfl
    | some s => unfold World.cell? at h; split at h <;> simp at h
theorem getD_map_toNat (zs : List Int) (hz : ∀ z ∈ zs, 0 ≤ z) (j : Nat) (hj : j < zs.length) : ((zs.map Int.toNat)[j]?).map (fun x : Nat => (x : Int)) = some (zs.getD j 0) := by
  simp [List.getD, hj, Int.toNat_of_nonneg (hz _ (List.getElem_mem hj))]
/-- a slice of words that came in -/
theorem open_u64s {H : Type} {enc : TypeId × Value → H} {P : Program} {t e : TypeId} {W : World} {base base' : Nat} {spare : Nat → Bool} {held : Bool} {v : Value} {d : DataW H} {ps : List MemPlace}
    (ht : P.underlying t = some (.slice e)) (he : P.underlying e = some (.int .u64)) (hc : P.cellsOf e = 1) (hv : Value.okWide P W .any base' t v) (h : DataW.Trod enc P W base spare held t v d ps) :
    ∃ A n c l, v = .slice A n c ∧ Sl u64v W.heap W.heap.size A n c l ∧ U64 l ∧ ((n = 0 ∧ c = 0) ∨ ∃ el sp, d = .slice el sp ∧ n ≤ el.length) := by
  obtain ⟨A, n, c, rfl⟩ := okWide_slice ht hv
  obtain ⟨fuel, hf⟩ := h
  rcases open_ints ht he hc hf with ⟨hcs, hx⟩ | ⟨a, len, cap, zs, hcs, hb, hl, hm, hz, hx, hcell, hwz⟩
  · simp [Value.cells] at hcs
    obtain ⟨rfl, rfl, rfl⟩ := hcs
    exact ⟨none, 0, 0, [], rfl, Sl.nil _ _ _ _ _, U64.nil, .inl ⟨rfl, rfl⟩⟩
  · simp [Value.cells] at hcs
    obtain ⟨rfl, rfl, rfl⟩ := hcs
    have hlen : n ≤ zs.length := by split at hz <;> omega
    have hr : ∀ z ∈ zs, 0 ≤ z ∧ z < 18446744073709551616 := fun z hz' => by
      have := hwz z hz'
      simp [Lit.wf, IntKind.min, IntKind.max, IntKind.signed, IntKind.bits] at this
      omega
    refine ⟨some a, n, c, (zs.take n).map Int.toNat, rfl, ⟨by simp; omega, hl, ?_⟩, ?_, .inr ⟨_, _, (Prod.mk.inj hx).1, by simp [lits]; omega⟩⟩
    · rcases Nat.eq_zero_or_pos n with h0 | h0
      · exact .inl h0
      · have hc0 := hcell 0 (by omega)
        have ha0 : a.add 0 = a := by simp [Addr.add]
        rw [ha0] at hc0
        have hs := spot_none hc0
        refine .inr ⟨a.block, a.off, by rw [← hs], ?_, fun j x hx' => ?_⟩
        · exact World.block_lt_of_cell? W a hc0
        · have hj : j < n := by
            have := (List.getElem?_eq_some_iff.1 hx').1
            simp at this; omega
          have hcj := hcell j (by omega)
          rw [hs, add_mk, cell_of_hcell] at hcj
          rw [hcj]
          have e1 : (zs.take n).getD j 0 = zs.getD j 0 := by simp [List.getD, List.getElem?_take, hj]
          have e2 := getD_map_toNat (zs.take n) (fun z hz' => (hr z (List.mem_of_mem_take hz')).1) j (by simp; omega)
          rw [hx', e1] at e2
          simp at e2
          show some (Value.int .u64 _) = some (Value.int .u64 _)
          simp only [List.getD] at e2 ⊢
          rw [← e2]
    · intro x hx'
      obtain ⟨z, hz', rfl⟩ := List.mem_map.1 hx'
      have := hr z (List.mem_of_mem_take hz')
      omega
/-- an int that came in -/
theorem open_i64 {H : Type} {enc : TypeId × Value → H} {P : Program} {t : TypeId} {W : World} {base base' : Nat} {spare : Nat → Bool} {held : Bool} {v : Value} {d : DataW H} {ps : List MemPlace}
    (ht : P.underlying t = some (.int .i64)) (hv : Value.okWide P W .any base' t v) (h : DataW.Trod enc P W base spare held t v d ps) :
    ∃ x : Int, v = .int .i64 x ∧ -9223372036854775808 ≤ x ∧ x < 9223372036854775808 := by
  obtain ⟨x, e1, _, _, wx⟩ := open_int ht hv h
  refine ⟨x, e1, ?_⟩
  simp [Lit.wf, IntKind.min, IntKind.max, IntKind.signed, IntKind.bits] at wx
  omega
/-- the reach of a slice of words -/
theorem reach_u64s {H : Type} {P : Program} {ts : List TypeId} {ds : List (DataW H)} (h : (DataW.weightsEach P ts ds).all (· ≤ reachBytes) = true) {j : Nat} {t e : TypeId} {d : DataW H} (hj : ts[j]? = some t) (hd : ds[j]? = some d)
    (ht : P.underlying t = some (.slice e)) (hb : P.bytesOf e = 8) {n c : Nat} (hn : (n = 0 ∧ c = 0) ∨ ∃ el sp, d = .slice el sp ∧ n ≤ el.length) : n ≤ 17592186043904 := by
  rcases hn with ⟨h0, _⟩ | ⟨el, sp, rfl, hc⟩
  · omega
  · have := sized_slice h hj hd ht
    rw [hb] at this
    simp only [reachBytes] at this
    omega
end Go.Proofs.Ytgmhldapndhoeaa
