/- NatAll's argument as the walk has it. -/
import Derived.Test.YtgmhldapndhoeaaDoorDoorG
import Derived.Test.YtgmhldapndhoeaaDoorOpenD
set_option linter.unusedVariables false
set_option linter.unusedSimpArgs false
namespace Go.Proofs.YtgmhldapndhoeaaDoor
open Go Go.Eng Go.Proofs Go.NatM Go.ChangeShapes Go.WideShapes Go.ChangeAt Go.RowKit Go.Deep

/-- a call's arguments, whatever their length -/
structure Good0 (H : Array Obj) (o : OpV) : Prop where
  sa : Sl u64v H H.size o.a.A o.a.n o.a.c o.a.l
  sb : Sl u64v H H.size o.b.A o.b.n o.b.c o.b.l
  ua : U64 o.a.l
  ub : U64 o.b.l
  z : -9223372036854775808 ≤ o.z ∧ o.z < 9223372036854775808
def opw (o : OpV) : Nat := o.a.n + o.b.n
theorem open_op {H : Type} {enc : TypeId × Value → H} {W : World} {base : Nat} {spare : Nat → Bool} {held : Bool} (m : Nat) (cs : List Value) (x : DataW H × List MemPlace)
    (h : DataW.trod enc Tryd.prog W base spare held m 41 cs = some x) : ∃ y : OpV, cs = opc y ∧ Good0 W.heap y ∧ opw y ≤ Rows.uptoBulk x.1 := by
  obtain ⟨xs, q, _, rfl, hl, hxl, hall⟩ := DataW.trod_struct Tryd.underlying41 h
  have hl' : cs.length = 4 := hl.trans (by kernel_rfl)
  have hxl' : xs.length = 4 := hxl.trans rfl
  obtain ⟨v0, v1, v2, v3, rfl⟩ : ∃ v0 v1 v2 v3, cs = [v0, v1, v2, v3] := by
    match cs, hl' with
    | [a, b, c, d], _ => exact ⟨a, b, c, d, rfl⟩
  obtain ⟨x0, x1, x2, x3, rfl⟩ : ∃ v0 v1 v2 v3, xs = [v0, v1, v2, v3] := by
    match xs, hxl' with
    | [a, b, c, d], _ => exact ⟨a, b, c, d, rfl⟩
  have ci : Tryd.prog.cellsOf 3 = 1 := by kernel_rfl
  have cu : Tryd.prog.cellsOf 22 = 1 := by kernel_rfl
  have h0 : DataW.trod enc Tryd.prog W base spare held q 3 (([v0, v1, v2, v3].drop 0).take (Tryd.prog.cellsOf 3)) = some x0 := hall 0 _ rfl
  have h1 : DataW.trod enc Tryd.prog W base spare held q 22 (([v0, v1, v2, v3].drop 1).take (Tryd.prog.cellsOf 22)) = some x1 := hall 1 _ rfl
  have h2 : DataW.trod enc Tryd.prog W base spare held q 22 (([v0, v1, v2, v3].drop 2).take (Tryd.prog.cellsOf 22)) = some x2 := hall 2 _ rfl
  have h3 : DataW.trod enc Tryd.prog W base spare held q 3 (([v0, v1, v2, v3].drop 3).take (Tryd.prog.cellsOf 3)) = some x3 := hall 3 _ rfl
  rw [ci] at h0 h3
  rw [cu] at h1 h2
  obtain ⟨z0, e0, _⟩ := open_i64c Tryd.underlying3 h0
  obtain ⟨y1, e1, s1, u1, m1⟩ := open_u64d Tryd.underlying22 Tryd.underlying26 (by kernel_rfl) h1
  obtain ⟨y2, e2, s2, u2, m2⟩ := open_u64d Tryd.underlying22 Tryd.underlying26 (by kernel_rfl) h2
  obtain ⟨z3, e3, b3⟩ := open_i64c Tryd.underlying3 h3
  obtain rfl : v0 = .int .i64 z0 := by simpa using e0
  obtain rfl : v1 = sav y1 := by simpa using e1
  obtain rfl : v2 = sav y2 := by simpa using e2
  obtain rfl : v3 = .int .i64 z3 := by simpa using e3
  refine ⟨⟨z0, y1, y2, z3⟩, rfl, ⟨s1, s2, u1, u2, b3⟩, ?_⟩
  simp only [opw, List.map_cons, List.map_nil, Rows.uptoBulk, Rows.uptoBulkAll]
  omega
theorem open_ops {H : Type} {enc : TypeId × Value → H} {W : World} {base base' : Nat} {spare : Nat → Bool} {held : Bool} {v : Value} {d : DataW H} {ps : List MemPlace}
    (hv : Value.okWide Tryd.prog W .any base' 37 v) (h : DataW.Trod enc Tryd.prog W base spare held 37 v d ps) :
    ∃ A n c L, v = .slice A n c ∧ Sm 4 opc W.heap W.heap.size A n c L ∧ (∀ o ∈ L, Good0 W.heap o) ∧ wts opw L + 1 ≤ Rows.uptoBulk d ∧ n + 1 ≤ Rows.uptoBulk d := by
  obtain ⟨A, n, c, rfl⟩ := okWide_slice Tryd.underlying37 hv
  obtain ⟨fuel, hf⟩ := h
  obtain ⟨A', n', c', L, e, r⟩ := open_elems (x := (d, ps)) opc (Good0 W.heap) opw (show 0 < 4 by omega) (fun _ => rfl) Tryd.underlying37 (by kernel_rfl) (fun m cs x h => open_op m cs x h) hf
  have e' : [Value.slice A n c] = [.slice A' n' c'] := e
  simp at e'
  obtain ⟨rfl, rfl, rfl⟩ := e'
  exact ⟨A, n, c, L, rfl, r⟩
theorem small_ops {n : Nat} {L : List OpV} {b : Nat} (h : b ≤ 1048576) (hn : wts opw L + 1 ≤ b ∧ n + 1 ≤ b) : wts opw L ≤ 1048576 ∧ n ≤ 1048576 := by omega
theorem natAll_row (w : World) (hT : Tab w.heap) (A : Option Addr) (n c : Nat) (L : List OpV) (hs : Sm 4 opc w.heap w.heap.size A n c L) (hL : ∀ o ∈ L, Good0 w.heap o) (hn : wts opw L ≤ 1048576 ∧ n ≤ 1048576) :
    Cl Tryd.prog 5 #[.slice A n c] w (Yes w) := by
  refine natAll_walk w hT A n c L hs (fun o ho => ?_) hn.2
  have g := hL o ho
  have h1 := wts_mem (wt := opw) ho
  simp only [opw] at h1
  exact ⟨g.sa, g.sb, g.ua, g.ub, by omega, by omega, g.z⟩
end Go.Proofs.YtgmhldapndhoeaaDoor
