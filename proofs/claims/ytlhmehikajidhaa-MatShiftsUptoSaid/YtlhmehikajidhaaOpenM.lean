/- Arguments as the engine has them: integers and matrices. -/
import Derived.Test.YtlhmehikajidhaaMatR
import Derived.Test.YtlhmehikajidhaaOpenD
set_option linter.unusedVariables false
set_option linter.unusedSimpArgs false
namespace Go.Proofs.Ytlhmehikajidhaa
open Go Go.Eng Go.Proofs Go.NatM Go.ChangeShapes Go.WideShapes Go.ChangeAt Go.RowKit Go.Deep

theorem len2 {α : Type} {l : List α} (h : l.length = 2) : ∃ a b, l = [a, b] := by
  match l, h with
  | [a, b], _ => exact ⟨a, b, rfl⟩
theorem len3 {α : Type} {l : List α} (h : l.length = 3) : ∃ a b c, l = [a, b, c] := by
  match l, h with
  | [a, b, c], _ => exact ⟨a, b, c, rfl⟩
theorem len4 {α : Type} {l : List α} (h : l.length = 4) : ∃ a b c d, l = [a, b, c, d] := by
  match l, h with
  | [a, b, c, d], _ => exact ⟨a, b, c, d, rfl⟩
def ivw (x : IV) : Nat := x.m.n
theorem open_int {H : Type} {enc : TypeId × Value → H} {W : World} {base : Nat} {spare : Nat → Bool} {held : Bool} (m : Nat) (cs : List Value) (x : DataW H × List MemPlace)
    (h : DataW.trod enc Try.prog W base spare held m 37 cs = some x) : ∃ y : IV, cs = ivc y ∧ GI W.heap y ∧ ivw y ≤ Rows.uptoBulk x.1 := by
  obtain ⟨xs, q, _, rfl, hl, hxl, hall⟩ := DataW.trod_struct Try.underlying37 h
  have hl' : cs.length = 2 := hl.trans (by kernel_rfl)
  have hxl' : xs.length = 2 := hxl.trans rfl
  obtain ⟨v0, v1, rfl⟩ := len2 hl'
  obtain ⟨x0, x1, rfl⟩ := len2 hxl'
  have cb : Try.prog.cellsOf 4 = 1 := by kernel_rfl
  have cu : Try.prog.cellsOf 35 = 1 := by kernel_rfl
  have h0 : DataW.trod enc Try.prog W base spare held q 4 (([v0, v1].drop 0).take (Try.prog.cellsOf 4)) = some x0 := hall 0 _ rfl
  rw [cb] at h0
  have h1 : DataW.trod enc Try.prog W base spare held q 35 (([v0, v1].drop 1).take (Try.prog.cellsOf 35)) = some x1 := hall 1 _ rfl
  rw [cu] at h1
  obtain ⟨b, e0, _⟩ := DataW.trod_bool Try.underlying4 h0
  obtain rfl : v0 = .bool b := by simpa using e0
  obtain ⟨y1, e1, s1, u1, m1⟩ := open_u64d Try.underlying35 Try.underlying51 (by kernel_rfl) h1
  obtain rfl : v1 = sav y1 := by simpa using e1
  refine ⟨⟨b, y1⟩, rfl, ⟨s1, u1⟩, ?_⟩
  simp only [ivw, List.map_cons, List.map_nil, Rows.uptoBulk, Rows.uptoBulkAll]
  omega
/-- what is read of a matrix -/
structure RM0 (H : Array Obj) (x : MV) : Prop where
  s : Sm 2 ivc H H.size x.A x.n x.k x.l
  g : ∀ y ∈ x.l, GI H y
def matw (x : MV) : Nat := wts ivw x.l + x.n
set_option maxRecDepth 10000 in
theorem open_matc {H : Type} {enc : TypeId × Value → H} {W : World} {base : Nat} {spare : Nat → Bool} {held : Bool} (m : Nat) (cs : List Value) (x : DataW H × List MemPlace)
    (h : DataW.trod enc Try.prog W base spare held m 24 cs = some x) : ∃ y : MV, cs = mvc y ∧ RM0 W.heap y ∧ wts ivw y.l ≤ Rows.uptoBulk x.1 := by
  obtain ⟨xs, q, _, rfl, hl, hxl, hall⟩ := DataW.trod_struct Try.underlying24 h
  have hl' : cs.length = 3 := hl.trans (by kernel_rfl)
  have hxl' : xs.length = 3 := hxl.trans rfl
  obtain ⟨v0, v1, v2, rfl⟩ := len3 hl'
  obtain ⟨x0, x1, x2, rfl⟩ := len3 hxl'
  have ci : Try.prog.cellsOf 3 = 1 := by kernel_rfl
  have cl : Try.prog.cellsOf 22 = 1 := by kernel_rfl
  have h0 : DataW.trod enc Try.prog W base spare held q 3 (([v0, v1, v2].drop 0).take (Try.prog.cellsOf 3)) = some x0 := hall 0 _ rfl
  rw [ci] at h0
  have h1 : DataW.trod enc Try.prog W base spare held q 3 (([v0, v1, v2].drop 1).take (Try.prog.cellsOf 3)) = some x1 := hall 1 _ rfl
  rw [ci] at h1
  have h2 : DataW.trod enc Try.prog W base spare held q 22 (([v0, v1, v2].drop 2).take (Try.prog.cellsOf 22)) = some x2 := hall 2 _ rfl
  rw [cl] at h2
  obtain ⟨z0, e0, b0⟩ := open_i64c Try.underlying3 h0
  obtain rfl : v0 = .int .i64 z0 := by simpa using e0
  obtain ⟨z1, e1, b1⟩ := open_i64c Try.underlying3 h1
  obtain rfl : v1 = .int .i64 z1 := by simpa using e1
  obtain ⟨A, n, c, L, e2, s2, g2, m2, m3⟩ := open_elems ivc (GI W.heap) ivw (show 0 < 2 by omega) (fun _ => rfl) Try.underlying22 (by kernel_rfl) (fun m cs x h => open_int m cs x h) h2
  obtain rfl : v2 = .slice A n c := by simpa using e2
  refine ⟨⟨z0, z1, A, n, c, L⟩, rfl, ⟨s2, g2⟩, ?_⟩
  simp only [List.map_cons, List.map_nil, Rows.uptoBulk, Rows.uptoBulkAll]
  omega
set_option maxRecDepth 10000 in
theorem open_mat {H : Type} {enc : TypeId × Value → H} {W : World} {base base' : Nat} {spare : Nat → Bool} {held : Bool} {v : Value} {d : DataW H} {ps : List MemPlace}
    (hv : Value.okWide Try.prog W .any base' 24 v) (h : DataW.Trod enc Try.prog W base spare held 24 v d ps) :
    ∃ y : MV, v = .agg (mvc y).toArray ∧ RM0 W.heap y ∧ wts ivw y.l ≤ Rows.uptoBulk d := by
  obtain ⟨cs, rfl, _⟩ := okWide_struct Try.underlying24 hv
  obtain ⟨fuel, hf⟩ := h
  obtain ⟨y, e, r⟩ := open_matc fuel _ (d, ps) hf
  have e' : cs.toList = mvc y := e
  refine ⟨y, ?_, r⟩
  rw [← e']
theorem small_mat {H : Array Obj} {y : MV} {b : Nat} (h : b ≤ 1048576) (r : RM0 H y) (hn : wts ivw y.l ≤ b) : RM H y 1048576 := ⟨r.s, fun x hx => ⟨r.g x hx, Nat.le_trans (wts_mem (wt := ivw) hx) (Nat.le_trans hn h)⟩⟩
theorem four_parts {l : List Value} (h : l.length = 12) : l = (l.drop (0 * 3)).take 3 ++ (l.drop (1 * 3)).take 3 ++ (l.drop (2 * 3)).take 3 ++ (l.drop (3 * 3)).take 3 := by
  match l, h with
  | [_, _, _, _, _, _, _, _, _, _, _, _], _ => rfl
set_option maxRecDepth 10000 in
/-- a matrix' parts of four -/
theorem open_mat4 {H : Type} {enc : TypeId × Value → H} {W : World} {base base' : Nat} {spare : Nat → Bool} {held : Bool} {v : Value} {d : DataW H} {ps : List MemPlace}
    (hv : Value.okWide Try.prog W .any base' 25 v) (h : DataW.Trod enc Try.prog W base spare held 25 v d ps) :
    ∃ y z u x : MV, v = .agg (mvc y ++ mvc z ++ mvc u ++ mvc x).toArray ∧ (RM0 W.heap y ∧ RM0 W.heap z ∧ RM0 W.heap u ∧ RM0 W.heap x) ∧ wts ivw y.l + wts ivw z.l + wts ivw u.l + wts ivw x.l ≤ Rows.uptoBulk d := by
  obtain ⟨cs0, rfl⟩ : ∃ cs, v = .agg cs := by
    simp only [Value.okWide, Try.underlying25] at hv
    obtain ⟨cs, h1, _⟩ := hv
    exact ⟨cs, h1⟩
  obtain ⟨fuel, hf⟩ := h
  obtain ⟨xs, q, _, e, hl, hxl, hall⟩ := DataW.trod_array Try.underlying25 hf
  have hl' : cs0.toList.length = 12 := hl.trans (by kernel_rfl)
  obtain ⟨x0, x1, x2, x3, rfl⟩ := len4 hxl
  have cm : Try.prog.cellsOf 24 = 3 := by kernel_rfl
  rw [cm] at hall
  obtain ⟨y, e0, r0, m0⟩ := open_matc q _ x0 (hall 0 (by omega))
  obtain ⟨z, e1, r1, m1⟩ := open_matc q _ x1 (hall 1 (by omega))
  obtain ⟨u, e2, r2, m2⟩ := open_matc q _ x2 (hall 2 (by omega))
  obtain ⟨x, e3, r3, m3⟩ := open_matc q _ x3 (hall 3 (by omega))
  refine ⟨y, z, u, x, ?_, ⟨r0, r1, r2, r3⟩, ?_⟩
  · have hcs : cs0.toList = mvc y ++ mvc z ++ mvc u ++ mvc x := by
      rw [← e0, ← e1, ← e2, ← e3]
      exact four_parts hl'
    rw [← hcs]
  · have ed := (Prod.mk.inj e).1
    rw [ed]
    simp only [List.map_cons, List.map_nil, Rows.uptoBulk, Rows.uptoBulkAll]
    omega
theorem small_mat4 {H : Array Obj} {y z u x : MV} {b : Nat} (h : b ≤ 1048576) (r : RM0 H y ∧ RM0 H z ∧ RM0 H u ∧ RM0 H x) (hn : wts ivw y.l + wts ivw z.l + wts ivw u.l + wts ivw x.l ≤ b) : RM H y 1048576 ∧ RM H z 1048576 ∧ RM H u 1048576 ∧ RM H x 1048576 :=
  ⟨small_mat h r.1 (by omega), small_mat h r.2.1 (by omega), small_mat h r.2.2.1 (by omega), small_mat h r.2.2.2 (by omega)⟩
end Go.Proofs.Ytlhmehikajidhaa
