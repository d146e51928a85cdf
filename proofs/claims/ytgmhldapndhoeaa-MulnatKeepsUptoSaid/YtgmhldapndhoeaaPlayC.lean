/- MulnatPlays's argument as the walk has it. -/
import Derived.Test.YtgmhldapndhoeaaPlayB
import Derived.Test.YtgmhldapndhoeaaOpenD
set_option linter.unusedVariables false
set_option linter.unusedSimpArgs false
namespace Go.Proofs.Ytgmhldapndhoeaa
open Go Go.Eng Go.Proofs Go.NatM Go.ChangeShapes Go.WideShapes Go.ChangeAt Go.RowKit Go.Deep

/-- a step's arguments, whatever their length -/
structure Goodw0 (H : Array Obj) (o : OpW) : Prop where
  sa : Sl u64v H H.size o.a.A o.a.n o.a.c o.a.l
  sb : Sl u64v H H.size o.b.A o.b.n o.b.c o.b.l
  sc : Sl u64v H H.size o.c.A o.c.n o.c.c o.c.l
  ua : U64 o.a.l
  ub : U64 o.b.l
  uc : U64 o.c.l
  z : -9223372036854775808 ≤ o.z ∧ o.z < 9223372036854775808
  sL : Sl sav H H.size o.LA o.Ln o.Lc o.L
  gL : LS H H.size o.L
def opwW (o : OpW) : Nat := o.a.n + o.b.n + o.c.n + (tot o.L + o.Ln)
theorem open_ssd {H : Type} {enc : TypeId × Value → H} {P : Program} {t e q : TypeId} {W : World} {base : Nat} {spare : Nat → Bool} {held : Bool} {cs : List Value} {x : DataW H × List MemPlace} {fuel : Nat}
    (ht : P.underlying t = some (.slice e)) (he : P.underlying e = some (.slice q)) (hq : P.underlying q = some (.int .u64)) (hc : P.cellsOf e = 1) (hcq : P.cellsOf q = 1) (hf : DataW.trod enc P W base spare held fuel t cs = some x) :
    ∃ A n c L, cs = [.slice A n c] ∧ Sl sav W.heap W.heap.size A n c L ∧ LS W.heap W.heap.size L ∧ tot L + n + 1 ≤ Rows.uptoBulk x.1 := by
  rcases DataW.trod_slice ht hf with ⟨rfl, _⟩ | ⟨a, len, cap, _, _, _, _, rfl, _⟩
  · obtain ⟨A, n, c, L, e1, r⟩ := open_ssc (d := x.1) (ps := x.2) ht he hq hc hcq hf; exact ⟨A, n, c, L, by rw [e1], r⟩
  · obtain ⟨A, n, c, L, e1, r⟩ := open_ssc (d := x.1) (ps := x.2) ht he hq hc hcq hf; exact ⟨A, n, c, L, by rw [e1], r⟩
theorem open_opw {H : Type} {enc : TypeId × Value → H} {W : World} {base : Nat} {spare : Nat → Bool} {held : Bool} (m : Nat) (cs : List Value) (x : DataW H × List MemPlace)
    (h : DataW.trod enc Try.prog W base spare held m 46 cs = some x) : ∃ y : OpW, cs = opd y ∧ Goodw0 W.heap y ∧ opwW y ≤ Rows.uptoBulk x.1 := by
  obtain ⟨xs, q, _, rfl, hl, hxl, hall⟩ := DataW.trod_struct Try.underlying46 h
  have hl' : cs.length = 6 := hl.trans (by kernel_rfl)
  have hxl' : xs.length = 6 := hxl.trans rfl
  obtain ⟨v0, v1, v2, v3, v4, v5, rfl⟩ : ∃ v0 v1 v2 v3 v4 v5, cs = [v0, v1, v2, v3, v4, v5] := by
    match cs, hl' with
    | [a, b, c, d, e, f], _ => exact ⟨a, b, c, d, e, f, rfl⟩
  obtain ⟨x0, x1, x2, x3, x4, x5, rfl⟩ : ∃ v0 v1 v2 v3 v4 v5, xs = [v0, v1, v2, v3, v4, v5] := by
    match xs, hxl' with
    | [a, b, c, d, e, f], _ => exact ⟨a, b, c, d, e, f, rfl⟩
  have ci : Try.prog.cellsOf 3 = 1 := by kernel_rfl
  have cu : Try.prog.cellsOf 23 = 1 := by kernel_rfl
  have cl : Try.prog.cellsOf 33 = 1 := by kernel_rfl
  have h0 : DataW.trod enc Try.prog W base spare held q 3 (([v0, v1, v2, v3, v4, v5].drop 0).take (Try.prog.cellsOf 3)) = some x0 := hall 0 _ rfl
  rw [ci] at h0
  have h1 : DataW.trod enc Try.prog W base spare held q 23 (([v0, v1, v2, v3, v4, v5].drop 1).take (Try.prog.cellsOf 23)) = some x1 := hall 1 _ rfl
  rw [cu] at h1
  have h2 : DataW.trod enc Try.prog W base spare held q 23 (([v0, v1, v2, v3, v4, v5].drop 2).take (Try.prog.cellsOf 23)) = some x2 := hall 2 _ rfl
  rw [cu] at h2
  have h3 : DataW.trod enc Try.prog W base spare held q 23 (([v0, v1, v2, v3, v4, v5].drop 3).take (Try.prog.cellsOf 23)) = some x3 := hall 3 _ rfl
  rw [cu] at h3
  have h4 : DataW.trod enc Try.prog W base spare held q 3 (([v0, v1, v2, v3, v4, v5].drop 4).take (Try.prog.cellsOf 3)) = some x4 := hall 4 _ rfl
  rw [ci] at h4
  have h5 : DataW.trod enc Try.prog W base spare held q 33 (([v0, v1, v2, v3, v4, v5].drop 5).take (Try.prog.cellsOf 33)) = some x5 := hall 5 _ rfl
  rw [cl] at h5
  obtain ⟨z0, e0, b0⟩ := open_i64c Try.underlying3 h0
  obtain rfl : v0 = .int .i64 z0 := by simpa using e0
  obtain ⟨y1, e1, s1, u1, m1⟩ := open_u64d Try.underlying23 Try.underlying25 (by kernel_rfl) h1
  obtain rfl : v1 = sav y1 := by simpa using e1
  obtain ⟨y2, e2, s2, u2, m2⟩ := open_u64d Try.underlying23 Try.underlying25 (by kernel_rfl) h2
  obtain rfl : v2 = sav y2 := by simpa using e2
  obtain ⟨y3, e3, s3, u3, m3⟩ := open_u64d Try.underlying23 Try.underlying25 (by kernel_rfl) h3
  obtain rfl : v3 = sav y3 := by simpa using e3
  obtain ⟨z4, e4, b4⟩ := open_i64c Try.underlying3 h4
  obtain rfl : v4 = .int .i64 z4 := by simpa using e4
  obtain ⟨A5, n5, c5, L5, e5, s5, g5, m5⟩ := open_ssd Try.underlying33 Try.underlying23 Try.underlying25 (by kernel_rfl) (by kernel_rfl) h5
  obtain rfl : v5 = .slice A5 n5 c5 := by simpa using e5
  refine ⟨⟨z0, y1, y2, y3, z4, A5, n5, c5, L5⟩, rfl, ⟨s1, s2, s3, u1, u2, u3, b4, s5, g5⟩, ?_⟩
  simp only [opwW, List.map_cons, List.map_nil, Rows.uptoBulk, Rows.uptoBulkAll]
  omega
theorem open_ops2 {H : Type} {enc : TypeId × Value → H} {W : World} {base base' : Nat} {spare : Nat → Bool} {held : Bool} {v : Value} {d : DataW H} {ps : List MemPlace}
    (hv : Value.okWide Try.prog W .any base' 44 v) (h : DataW.Trod enc Try.prog W base spare held 44 v d ps) :
    ∃ A n c L, v = .slice A n c ∧ Sm 6 opd W.heap W.heap.size A n c L ∧ (∀ o ∈ L, Goodw0 W.heap o) ∧ wts opwW L + 1 ≤ Rows.uptoBulk d ∧ n + 1 ≤ Rows.uptoBulk d := by
  obtain ⟨A, n, c, rfl⟩ := okWide_slice Try.underlying44 hv
  obtain ⟨fuel, hf⟩ := h
  obtain ⟨A', n', c', L, e, r⟩ := open_elems (x := (d, ps)) opd (Goodw0 W.heap) opwW (show 0 < 6 by omega) (fun _ => rfl) Try.underlying44 (by kernel_rfl) (fun m cs x h => open_opw m cs x h) hf
  have e' : [Value.slice A n c] = [.slice A' n' c'] := e
  simp at e'
  obtain ⟨rfl, rfl, rfl⟩ := e'
  exact ⟨A, n, c, L, rfl, r⟩
theorem small_ops2 {n : Nat} {L : List OpW} {b : Nat} (h : b ≤ 1048576) (hn : wts opwW L + 1 ≤ b ∧ n + 1 ≤ b) : wts opwW L ≤ 1048576 ∧ n ≤ 1048576 := by omega
theorem plays_row (w : World) (A : Option Addr) (n c : Nat) (L : List OpW) (hs : Sm 6 opd w.heap w.heap.size A n c L) (hL : ∀ o ∈ L, Goodw0 w.heap o) (hn : wts opwW L ≤ 1048576 ∧ n ≤ 1048576) :
    Cl Try.prog 11 #[.slice A n c] w (Yes w) := by
  refine plays_walk w A n c L hs (fun o ho => ?_) hn.2
  have g := hL o ho
  have h1 := wts_mem (wt := opwW) ho
  simp only [opwW] at h1
  exact ⟨g.sa, g.sb, g.sc, g.ua, g.ub, g.uc, by omega, by omega, by omega, g.z, g.sL, g.gL, by omega⟩
end Go.Proofs.Ytgmhldapndhoeaa
