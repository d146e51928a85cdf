/- Opening matrices handed in, with the range of their numbers and the length of their lists. -/
import Derived.Test.YtlhmehikajidhaaPk12
import Derived.Test.YtlhmehikajidhaaPk10
set_option linter.unusedVariables false
set_option linter.unusedSimpArgs false
namespace Go.Proofs.Ytlhmehikajidhaa
open Go Go.Eng Go.Proofs Go.NatM Go.ChangeShapes Go.WideShapes Go.ChangeAt Go.RowKit Go.Deep

set_option maxRecDepth 10000 in
theorem open_matcT {H : Type} {enc : TypeId × Value → H} {W : World} {base : Nat} {spare : Nat → Bool} {held : Bool} (m : Nat) (cs : List Value) (x : DataW H × List MemPlace)
    (h : DataW.trod enc Try.prog W base spare held m 24 cs = some x) : ∃ y : MV, cs = mvc y ∧ (RM0 W.heap y ∧ InR y) ∧ wts ivw y.l + y.n ≤ 2 * Rows.uptoBulk x.1 ∧ wts ivw y.l ≤ Rows.uptoBulk x.1 ∧ y.n ≤ Rows.uptoBulk x.1 := by
  obtain ⟨xs, q, _, rfl, hl, hxl, hall⟩ := DataW.trod_struct Try.underlying24 h
  have hl' : cs.length = 3 := hl.trans (by kernel_rfl)
  have hxl' : xs.length = 3 := hxl.trans rfl
  obtain ⟨v0, v1, v2, rfl⟩ := len3 hl'
  obtain ⟨x0, x1, x2, rfl⟩ := len3 hxl'
  have ci : Try.prog.cellsOf 3 = 1 := by kernel_rfl
  have cl : Try.prog.cellsOf 22 = 1 := by kernel_rfl
  have h0 : DataW.trod enc Try.prog W base spare held q 3 (([v0, v1, v2].drop 0).take (Try.prog.cellsOf 3)) = some x0 := hall 0 _ rfl
  rw [ci] at h0
  have h1 : DataW.trod enc Try.prog W base spare held q 3 (([v0, v1, v2].drop 1).take (Try.prog.cellsOf 3)) = some x1 := hall 1 _ rfl
  rw [ci] at h1
  have h2 : DataW.trod enc Try.prog W base spare held q 22 (([v0, v1, v2].drop 2).take (Try.prog.cellsOf 22)) = some x2 := hall 2 _ rfl
  rw [cl] at h2
  obtain ⟨z0, e0, b0⟩ := open_i64c Try.underlying3 h0
  obtain rfl : v0 = .int .i64 z0 := by simpa using e0
  obtain ⟨z1, e1, b1⟩ := open_i64c Try.underlying3 h1
  obtain rfl : v1 = .int .i64 z1 := by simpa using e1
  obtain ⟨A, n, c, L, e2, s2, g2, m2, m3⟩ := open_elems ivc (GI W.heap) ivw (show 0 < 2 by omega) (fun _ => rfl) Try.underlying22 (by kernel_rfl) (fun m cs x h => open_int m cs x h) h2
  obtain rfl : v2 = .slice A n c := by simpa using e2
  refine ⟨⟨z0, z1, A, n, c, L⟩, rfl, ⟨⟨s2, g2⟩, b0, b1⟩, ?_⟩
  simp only [List.map_cons, List.map_nil, Rows.uptoBulk, Rows.uptoBulkAll]
  omega
set_option maxRecDepth 10000 in
theorem open_matT {H : Type} {enc : TypeId × Value → H} {W : World} {base base' : Nat} {spare : Nat → Bool} {held : Bool} {v : Value} {d : DataW H} {ps : List MemPlace}
    (hv : Value.okWide Try.prog W .any base' 24 v) (h : DataW.Trod enc Try.prog W base spare held 24 v d ps) :
    ∃ y : MV, v = .agg (mvc y).toArray ∧ (RM0 W.heap y ∧ InR y) ∧ (wts ivw y.l ≤ Rows.uptoBulk d ∧ y.n ≤ Rows.uptoBulk d) := by
  obtain ⟨cs, rfl, _⟩ := okWide_struct Try.underlying24 hv
  obtain ⟨fuel, hf⟩ := h
  obtain ⟨y, e, r, _, m⟩ := open_matcT fuel _ (d, ps) hf
  have e' : cs.toList = mvc y := e
  refine ⟨y, ?_, r, m⟩
  rw [← e']
theorem small_matT {H : Array Obj} {y : MV} {b : Nat} (h : b ≤ 1048576) (r : RM0 H y ∧ InR y) (hn : wts ivw y.l ≤ b ∧ y.n ≤ b) : (RM H y 1048576 ∧ InR y) ∧ y.n ≤ 1048576 := ⟨⟨small_mat h r.1 hn.1, r.2⟩, by omega⟩
end Go.Proofs.Ytlhmehikajidhaa
