/- The engine, values of several cells: structs, slices of structs. The engine: regions whose order is drawn, under a condition on the world that all effects keep. The engine: variables in memory of their own (boxed values), by their cells. The engine: regions whose order is drawn, by a tree of orders, under a condition on the world that all effects but the last keep; results that lie in memory; closures. The engine: results that lie in memory, closures, append to nothing. The engine, so that each step gives a new world and what it keeps: rules for walks with variables in memory. The types and functions of this translation, as the engine asks for them. The struct types of this translation. -/
import Derived.Test.YthlbihbchobllaaGreatPh1
import Derived.Deep.MidRow
import Derived.Laws.Tables
import Derived.OrdersHeld
import Derived.Laws.CopyRow
import Derived.Test.YthlbihbchobllaaGreatProg
set_option linter.unusedVariables false
set_option linter.unusedSimpArgs false
namespace Go.Eng
open Go Go.RowKit

/-- n cells from off on -/
def subV (cs : List Value) : Nat → Nat → Option (List Value)
  | _, 0 => some []
  | off, n + 1 => match nthV cs off with
    | some v => match subV cs (off + 1) n with
      | some l => some (v :: l)
      | none => none
    | none => none
theorem subV_eq {cs : List Value} : ∀ {n off : Nat} {l : List Value}, subV cs off n = some l → (cs.drop off).take n = l
  | 0, off, l, h => by simp [subV] at h; simp [h]
  | n + 1, off, l, h => by
    simp only [subV, nthV_eq] at h
    cases hv : cs[off]? with
    | none => rw [hv] at h; simp at h
    | some v =>
      rw [hv] at h
      cases hs : subV cs (off + 1) n with
      | none => rw [hs] at h; simp at h
      | some l' =>
        rw [hs] at h
        simp at h
        subst h
        have hlt := (List.getElem?_eq_some_iff.1 hv).1
        have e := (List.getElem?_eq_some_iff.1 hv).2
        rw [List.drop_eq_getElem_cons hlt, List.take_succ_cons, subV_eq hs, e]
section
variable {P : Program} {σ : Store} {H : Array Obj} {d : Option Tmp} {t : TypeId} {pos : String} {af : Array Edge} {gd : Option (Nat × Bool)}
theorem add_add (a : Addr) (m n : Nat) : (a.add m).add n = a.add (m + n) := by
  unfold Addr.add
  by_cases hm : m = 0 <;> by_cases hn : n = 0 <;> simp_all [Nat.add_assoc]
theorem fieldSize {P : Program} {tx : TypeId} {f ft off : Nat} (hF : UField P tx f ft off) : ∃ fs fd ii, P.underlying tx = some (.struct fs) ∧ fs[f]? = some fd ∧ fd.type = ft ∧ fd.offset = off ∧ P.info? ft = some ii ∧ ii.size ≠ 0 := by
  obtain ⟨fs, fd, h1, h2, h3, h4, h5⟩ := hF.out
  cases hq : P.info? ft with
  | none => rw [hq] at h5; simp at h5
  | some ii =>
    rw [hq] at h5
    refine ⟨fs, fd, ii, h1, h2, h3, h4, rfl, fun h0 => ?_⟩
    simp [h0] at h5
theorem ev_fieldAddr {x : Operand} {tx : TypeId} {f : Nat} {ft off : Nat} [hF : UField P tx f ft off] {b o : Nat} (hx : look σ x = some (.pointer (some ⟨b, o, none⟩))) :
    Ev P σ H ⟨d, .fieldAddr tx x f, t, pos, af, gd⟩ (.pointer (some ⟨b, o + off, none⟩)) := by
  unfold Ev
  intro ρ w hρ _
  obtain ⟨fs, fd, ii, h1, h2, h3, h4, h5, h6⟩ := fieldSize hF
  subst h3 h4
  simp [execOp, hρ x _ hx, Instr.fieldAt, run_underlying h1, h2, Instr.sureAddr, fieldPlace, sizeOf, typeInfo, h5, h6, add_mk]
theorem ev_fieldAddrE {x : Operand} {tx : TypeId} {f : Nat} {ft off : Nat} [hF : UField P tx f ft off] {A : Option Addr} {m : Nat} (hx : look σ x = some (.pointer (elemA A m))) (hA : A.isSome = true) :
    Ev P σ H ⟨d, .fieldAddr tx x f, t, pos, af, gd⟩ (.pointer (elemA A (m + off))) := by
  unfold Ev
  intro ρ w hρ _
  obtain ⟨fs, fd, ii, h1, h2, h3, h4, h5, h6⟩ := fieldSize hF
  subst h3 h4
  cases A with
  | none => simp at hA
  | some a => simp [execOp, hρ x _ hx, Instr.fieldAt, run_underlying h1, h2, Instr.sureAddr, fieldPlace, sizeOf, typeInfo, h5, h6, elemA, add_add]
theorem ev_nilCheck {x : Operand} {a : Addr} (hx : look σ x = some (.pointer (some a))) : Ev P σ H ⟨d, .nilCheck x, t, pos, af, gd⟩ (.pointer (some a)) := by
  unfold Ev
  intro ρ w hρ _
  simp [execOp, hρ x _ hx]
/-- the address of an element of sz cells -/
theorem ev_indexM {x i : Operand} {ty e : TypeId} [hT : USlice P ty e] {z : Value} {sz b1 : Nat} [hS : USize P e z sz b1] {A : Option Addr} {n c : Nat} {k : IntKind} {z0 : Int} {m : Nat} [e0 : IsN z0 m]
    (hx : look σ x = some (.slice A n c)) (hi : look σ i = some (.int k z0)) (h : m < n) (hA : n = 0 ∨ A.isSome = true) : Ev P σ H ⟨d, .indexAddr ty x i, t, pos, af, gd⟩ (.pointer (elemA A (m * sz))) := by
  unfold Ev
  intro ρ w hρ _
  obtain ⟨ii, hii, _, hsz, _⟩ := hS.info
  rw [e0.out] at hi
  have hA' : A.isSome = true := hA.resolve_left (by omega)
  have h1 : (0 : Int) ≤ m ∧ (m : Int) < n := by omega
  cases A with
  | none => simp at hA'
  | some a => simp [execOp, hρ x _ hx, hρ i _ hi, Instr.indexAt, asIntOf, run_underlying hT.out, h1, sizeOf, typeInfo, hii, hsz, elemA]; intro h2; omega
end

/-- a slice that reads as a list of values of k cells; it lies below block B -/
structure Sm {α : Type} (k : Nat) (f : α → List Value) (H : Array Obj) (B : Nat) (A : Option Addr) (n c : Nat) (l : List α) : Prop where
  len : l.length = n
  cap : n ≤ c
  pos : 0 < k
  wid : ∀ x ∈ l, (f x).length = k
  mem : n = 0 ∨ ∃ b o, A = some ⟨b, o, none⟩ ∧ b < B ∧ ∀ j x, l[j]? = some x → ∀ q v, (f x)[q]? = some v → hcell H b (o + (j * k + q)) = some v
section
variable {α : Type} {k : Nat} {f : α → List Value} {w w' : World} {B lo n c : Nat} {A : Option Addr} {l : List α} {t : TypeId}
theorem Sm.in_heap {H : Array Obj} (h : Sm k f H B A n c l) : n = 0 ∨ ∃ b o, A = some ⟨b, o, none⟩ ∧ b < B ∧ b < H.size ∧ ∀ j x, l[j]? = some x → ∀ q v, (f x)[q]? = some v → hcell H b (o + (j * k + q)) = some v := by
  rcases h.mem with h0 | ⟨b, o, e, hlt, hc⟩
  · exact .inl h0
  · rcases Nat.eq_zero_or_pos n with h0 | h0
    · exact .inl h0
    · have hl : 0 < l.length := by have := h.len; omega
      have hw := h.wid l[0] (List.getElem_mem hl)
      have hp := h.pos
      have h1 := hc 0 l[0] (List.getElem?_eq_getElem hl) 0 (f l[0])[0] (List.getElem?_eq_getElem (by omega))
      exact .inr ⟨b, o, e, hlt, hcell_lt h1, hc⟩
theorem Sm.below (hb : Below B w w') (h : Sm k f w.heap B A n c l) : Sm k f w'.heap B A n c l :=
  ⟨h.len, h.cap, h.pos, h.wid, h.mem.imp id fun ⟨b, o, e, hlt, hc⟩ => ⟨b, o, e, hlt, fun j x hx q v hv => (hcell_below hb hlt).trans (hc j x hx q v hv)⟩⟩
theorem Sm.ext (hb : Ext w w') (h : Sm k f w.heap B A n c l) : Sm k f w'.heap B A n c l :=
  ⟨h.len, h.cap, h.pos, h.wid, h.in_heap.imp id fun ⟨b, o, e, hlt, hh, hc⟩ => ⟨b, o, e, hlt, fun j x hx q v hv => (hcell_below hb hh).trans (hc j x hx q v hv)⟩⟩
theorem Sm.mono {H : Array Obj} {B' : Nat} (h : Sm k f H B A n c l) (hB : B ≤ B') : Sm k f H B' A n c l :=
  ⟨h.len, h.cap, h.pos, h.wid, h.mem.imp id fun ⟨b, o, e, hlt, hc⟩ => ⟨b, o, e, Nat.lt_of_lt_of_le hlt hB, hc⟩⟩
theorem Sm.some {H : Array Obj} (h : Sm k f H B A n c l) : n = 0 ∨ A.isSome = true := h.mem.imp id fun ⟨b, o, e, _⟩ => by rw [e]; rfl
theorem Sm.isSome {H : Array Obj} (h : Sm k f H B A n c l) {i : Nat} (hi : i < n) : A.isSome = true := h.some.resolve_left (by omega)
theorem Sm.size {H : Array Obj} (h : Sm k f H B A n c l) : Sm k f H H.size A n c l :=
  ⟨h.len, h.cap, h.pos, h.wid, h.in_heap.imp id fun ⟨b, o, e, hlt, hh, hc⟩ => ⟨b, o, e, hh, hc⟩⟩
theorem Sm.nil (hk : 0 < k) (f : α → List Value) (H : Array Obj) (B : Nat) (A : Option Addr) (c : Nat) : Sm k f H B A 0 c [] := ⟨rfl, Nat.zero_le _, hk, fun x hx => (by cases hx), .inl rfl⟩
theorem Sm.take {H : Array Obj} (h : Sm k f H B A n c l) {i m : Nat} (hi : i ≤ n) (hm : i ≤ m) : Sm k f H B A i m (l.take i) :=
  ⟨by rw [List.length_take, h.len]; omega, hm, h.pos, fun x hx => h.wid x (List.mem_of_mem_take hx), by
    rcases h.mem with h0 | ⟨b, o, e, hlt, hc⟩
    · exact .inl (by omega)
    · exact .inr ⟨b, o, e, hlt, fun j x hx => hc j x (by rw [List.getElem?_take] at hx; split at hx <;> first | exact hx | cases hx)⟩⟩
theorem Sm.drop {H : Array Obj} (h : Sm k f H B A n c l) {i m : Nat} (hi : i ≤ n) (hm : n - i ≤ m) : Sm k f H B (elemA A (i * k)) (n - i) m (l.drop i) :=
  ⟨by rw [List.length_drop, h.len], hm, h.pos, fun x hx => h.wid x (List.mem_of_mem_drop hx), by
    rcases h.mem with h0 | ⟨b, o, e, hlt, hc⟩
    · exact .inl (by omega)
    · refine .inr ⟨b, o + i * k, by rw [e]; simp [elemA, add_mk], hlt, fun j x hx q v hv => ?_⟩
      rw [List.getElem?_drop] at hx
      have := hc (i + j) x hx q v hv
      rwa [Nat.add_mul, Nat.add_assoc (i * k), ← Nat.add_assoc] at this⟩
/-- the address of s[i:], of elements of k cells -/
def cutM (k : Nat) (A : Option Addr) (m i : Nat) : Option Addr := if m = i then A else elemA A (i * k)
theorem Sm.dropC {H : Array Obj} (h : Sm k f H B A n c l) {i m m' : Nat} (hi : i ≤ n) (hm : n ≤ m) (hm' : n - i ≤ m') : Sm k f H B (cutM k A m i) (n - i) m' (l.drop i) := by
  unfold cutM
  split
  · subst_vars
    have : n - m = 0 := by omega
    exact ⟨by rw [List.length_drop, h.len], hm', h.pos, fun x hx => h.wid x (List.mem_of_mem_drop hx), .inl this⟩
  · exact h.drop hi hm'
theorem Sm.dropTake {H : Array Obj} (h : Sm k f H B A n c l) {i j m m' : Nat} (hi : i ≤ j) (hj : j ≤ n) (hm : n ≤ m) (hm' : j - i ≤ m') : Sm k f H B (cutM k A m i) (j - i) m' ((l.drop i).take (j - i)) := by
  have h1 := (h.dropC (i := i) (m := m) (m' := m - i) (by omega) hm (by omega)).take (i := j - i) (m := m') (by omega) hm'
  exact h1
end

/-! ### Slices of slices of several cells -/
section
variable {P : Program} {σ : Store} {H : Array Obj} {d : Option Tmp} {t : TypeId} {pos : String} {af : Array Edge} {gd : Option (Nat × Bool)} {x : Operand} {A : Option Addr} {n c : Nat}
theorem ev_slM_h {ty e : TypeId} [hT : USlice P ty e] {z : Value} {sz b1 : Nat} [hS : USize P e z sz b1] {y : Operand} {k : IntKind} {z1 : Int} {h : Nat} [e1 : IsN z1 h] (hx : look σ x = some (.slice A n c)) (hy : look σ y = some (.int k z1)) (hh : h ≤ c) :
    Ev P σ H ⟨d, .slice ty x none (some y) none, t, pos, af, gd⟩ (.slice A h c) := by
  unfold Ev
  intro ρ w hρ _
  obtain rfl := e1.out
  have hb : (Instr.sliceBounds true n c none (some (.int k (h : Int))) none).run P w = .ok (0, h, c) w := by simp [Instr.sliceBounds, run_bound hh]
  have e0 : (if c = 0 then A else A.map (·.add (0 * sz))) = A := by
    split
    · rfl
    · cases A <;> simp [Addr.add]
  simp only [execOp, hρ x _ hx, hρ y _ hy, Option.map_none, Option.map_some, Sem.run_bind, run_slice_gen (ty := ty) (e := e) (A := A) hb, Result.andThen_ok, Sem.run_pure, e0, Nat.sub_zero]
theorem ev_slM_l {ty e : TypeId} [hT : USlice P ty e] {z : Value} {sz b1 : Nat} [hS : USize P e z sz b1] {y : Operand} {k : IntKind} {z1 : Int} {l : Nat} [e1 : IsN z1 l] (hx : look σ x = some (.slice A n c)) (hy : look σ y = some (.int k z1)) (hl : l ≤ n) (hn : n ≤ c) :
    Ev P σ H ⟨d, .slice ty x (some y) none none, t, pos, af, gd⟩ (.slice (cutM sz A c l) (n - l) (c - l)) := by
  unfold Ev
  intro ρ w hρ _
  obtain rfl := e1.out
  have hb : (Instr.sliceBounds true n c (some (.int k (l : Int))) none none).run P w = .ok (l, n, c) w := by simp [Instr.sliceBounds, run_bound hl]
  simp only [execOp, hρ x _ hx, hρ y _ hy, Option.map_none, Option.map_some, Sem.run_bind, run_slice_gen (ty := ty) (e := e) (A := A) hb, Result.andThen_ok, Sem.run_pure, cutM, elemA]
theorem ev_slM_lh {ty e : TypeId} [hT : USlice P ty e] {z : Value} {sz b1 : Nat} [hS : USize P e z sz b1] {y u : Operand} {k k' : IntKind} {z1 z2 : Int} {l h : Nat} [e1 : IsN z1 l] [e2 : IsN z2 h] (hx : look σ x = some (.slice A n c)) (hy : look σ y = some (.int k z1)) (hu : look σ u = some (.int k' z2)) (hl : l ≤ h) (hn : h ≤ c) :
    Ev P σ H ⟨d, .slice ty x (some y) (some u) none, t, pos, af, gd⟩ (.slice (cutM sz A c l) (h - l) (c - l)) := by
  unfold Ev
  intro ρ w hρ _
  obtain rfl := e1.out
  obtain rfl := e2.out
  have hb : (Instr.sliceBounds true n c (some (.int k (l : Int))) (some (.int k' (h : Int))) none).run P w = .ok (l, h, c) w := by simp [Instr.sliceBounds, run_bound hl, run_bound hn]
  simp only [execOp, hρ x _ hx, hρ y _ hy, hρ u _ hu, Option.map_none, Option.map_some, Sem.run_bind, run_slice_gen (ty := ty) (e := e) (A := A) hb, Result.andThen_ok, Sem.run_pure, cutM, elemA]
/-- an element that is a struct -/
theorem ev_loadM {x : Operand} {ty : TypeId} [hA : UAgg P ty] {z : Value} {sz b1 : Nat} [hS : USize P ty z sz b1] {α : Type} {f : α → List Value} {B n c i : Nat} {A : Option Addr} {l : List α} {y : α}
    (hx : look σ x = some (.pointer (elemA A (i * sz)))) (hs : Sm sz f H B A n c l) (hy : l[i]? = some y) : Ev P σ H ⟨d, .load ty x, t, pos, af, gd⟩ (.agg (f y).toArray) := by
  unfold Ev
  intro ρ w hρ hH
  have hi := (List.getElem?_eq_some_iff.1 hy).1
  have hlen := hs.len
  rcases hs.mem with h0 | ⟨b, o, rfl, _, hc⟩
  · omega
  · obtain ⟨fs, hfs⟩ := hA.out
    obtain ⟨ii, hii, _, hsz, _⟩ := hS.info
    have hw := hs.wid y (List.mem_of_getElem? hy)
    have hr : w.rangeAt b (o + i * sz) (f y) := fun q v hv => by
      rw [cell_of_hcell, hH, Nat.add_assoc]
      exact hc i y hy q v hv
    have := run_loadAt_mid (P := P) w b (o + i * sz) ty (f y) _ hr hfs rfl (by rw [hii]; simp [hsz, hw])
    have e : look σ x = some (.pointer (some ⟨b, o + i * sz, none⟩)) := by rw [hx]; simp [elemA, add_mk]
    simp [execOp, hρ x _ e, this]
/-- a field, of one cell, of an element -/
theorem ev_loadMF {x : Operand} {ty : TypeId} [hO : UOne P ty] {sz off : Nat} {α : Type} {f : α → List Value} {B n c i : Nat} {A : Option Addr} {l : List α} {y : α} {v : Value}
    (hx : look σ x = some (.pointer (elemA A (i * sz + off)))) (hs : Sm sz f H B A n c l) (hy : l[i]? = some y) (hv : nthV (f y) off = some v) : Ev P σ H ⟨d, .load ty x, t, pos, af, gd⟩ v := by
  have hi := (List.getElem?_eq_some_iff.1 hy).1
  have hlen := hs.len
  rw [nthV_eq] at hv
  rcases hs.mem with h0 | ⟨b, o, rfl, _, hc⟩
  · omega
  · exact ev_load (b := b) (i := o + (i * sz + off)) (by rw [hx]; simp [elemA, add_mk]) (hc i y hy off v hv)
end

/-! ### A struct made -/
class UStruct (P : Program) (t : TypeId) (pl : outParam (List (Nat × Nat))) : Prop where
  out : ∃ fs : Array Field, P.underlying t = some (.struct fs) ∧ fs.toList.mapM (fun f => (P.info? f.type).map fun i => (f.offset, i.size)) = some pl
/-- vs over cs from off on -/
def putV : List Value → Nat → List Value → List Value
  | cs, _, [] => cs
  | [], _, _ => []
  | c :: cs, 0, v :: vs => v :: putV cs 0 vs
  | c :: cs, off + 1, v :: vs => c :: putV cs off (v :: vs)
theorem putV_nil (off : Nat) : ∀ cs : List Value, putV cs off [] = cs
  | [] => by simp [putV]
  | c :: cs => by simp [putV]
theorem putV_get : ∀ (cs : List Value) (off : Nat) (vs : List Value) (j : Nat), (putV cs off vs)[j]? = if off ≤ j ∧ j < off + vs.length ∧ j < cs.length then vs[j - off]? else cs[j]?
  | cs, off, [], j => by rw [putV_nil, if_neg]; simp; omega
  | [], off, v :: vs, j => by simp [putV]
  | c :: cs, 0, v :: vs, 0 => by simp [putV]
  | c :: cs, 0, v :: vs, j + 1 => by
    simp only [putV, List.getElem?_cons_succ, putV_get cs 0 vs j, List.length_cons]
    simp only [Nat.zero_le, true_and, Nat.zero_add, Nat.sub_zero, Nat.add_lt_add_iff_right, List.getElem?_cons_succ]
  | c :: cs, off + 1, v :: vs, 0 => by simp [putV]
  | c :: cs, off + 1, v :: vs, j + 1 => by
    simp only [putV, List.getElem?_cons_succ, putV_get cs off (v :: vs) j, List.length_cons]
    have : (off + 1 ≤ j + 1 ∧ j + 1 < off + 1 + (vs.length + 1) ∧ j + 1 < cs.length + 1) ↔ (off ≤ j ∧ j < off + (vs.length + 1) ∧ j < cs.length) := by omega
    simp only [this, Nat.add_sub_add_right]
theorem foldl_put (vs : List Value) (i : Nat) (off : Nat) (cs : Array Value) :
    ((vs.zipIdx i).foldl (fun (cs : Array Value) (p : Value × Nat) => cs.setIfInBounds (off + p.2) p.1) cs).toList = putV cs.toList (off + i) vs := by
  induction vs generalizing i cs with
  | nil => simp [putV_nil]
  | cons v vs ih =>
    simp only [List.zipIdx_cons, List.foldl_cons, ih]
    apply List.ext_getElem?
    intro j
    simp only [putV_get, Array.toList_setIfInBounds, List.length_set, List.length_cons, List.getElem?_set]
    by_cases h1 : off + i = j
    · subst h1
      by_cases h2 : off + i < cs.toList.length
      · have e1 : ¬ (off + (i + 1) ≤ off + i ∧ off + i < off + (i + 1) + vs.length ∧ off + i < cs.toList.length) := by omega
        have e2 : off + i ≤ off + i ∧ off + i < off + i + (vs.length + 1) ∧ off + i < cs.toList.length := by omega
        rw [if_neg e1, if_pos e2]
        simp_all
      · have e1 : ¬ (off + (i + 1) ≤ off + i ∧ off + i < off + (i + 1) + vs.length ∧ off + i < cs.toList.length) := by omega
        have e2 : ¬ (off + i ≤ off + i ∧ off + i < off + i + (vs.length + 1) ∧ off + i < cs.toList.length) := by omega
        rw [if_neg e1, if_neg e2]
        simp_all
    · have : (off + (i + 1) ≤ j ∧ j < off + (i + 1) + vs.length ∧ j < cs.toList.length) ↔ (off + i ≤ j ∧ j < off + i + (vs.length + 1) ∧ j < cs.toList.length) := by omega
      simp only [this, h1, if_false]
      split
      · rename_i h2
        rw [show j - (off + i) = (j - (off + (i + 1))) + 1 by omega, List.getElem?_cons_succ]
      · rfl
/-- the parts of a struct put over its zero -/
def fillV (pl : List (Nat × Nat)) : List Value → List (Nat × Value) → Option (List Value)
  | cs, [] => some cs
  | cs, (i, v) :: rest => match pl[i]? with
    | none => none
    | some (off, size) => if Nat.beq v.cells.toList.length size && Nat.ble (off + size) cs.length then fillV pl (putV cs off v.cells.toList) rest else none
theorem fillV_eq {pl : List (Nat × Nat)} : ∀ (parts : List (Nat × Value)) (cs r : List Value), fillV pl cs parts = some r → Instr.fill (fun i => pl[i]?) cs.toArray parts = some r.toArray
  | [], cs, r, h => by simp [fillV] at h; simp [Instr.fill, h]
  | (i, v) :: rest, cs, r, h => by
    simp only [fillV] at h
    cases hp : pl[i]? with
    | none => rw [hp] at h; simp at h
    | some os =>
      obtain ⟨off, size⟩ := os
      rw [hp] at h
      simp only at h
      split at h
      · rename_i hb
        simp only [Bool.and_eq_true, Nat.beq_eq, Nat.ble_eq, Array.length_toList] at hb
        have := fillV_eq rest _ r h
        simp only [Instr.fill, hp]
        have e1 : ¬ (v.cells.size ≠ size ∨ off + v.cells.size > cs.toArray.size) := by simp; omega
        rw [if_neg (by simpa using e1)]
        have e2 : Array.foldl (fun (cs : Array Value) (p : Value × Nat) => cs.setIfInBounds (off + p.2) p.1) cs.toArray v.cells.zipIdx = (putV cs off v.cells.toList).toArray := by
          apply Array.ext'
          have := foldl_put v.cells.toList 0 off cs.toArray
          simp only [Nat.add_zero] at this
          rw [← this]
          rw [← Array.foldl_toList, Array.toList_zipIdx]
        rw [e2]
        exact this
      · cases h
section
variable {P : Program} {σ : Store} {H : Array Obj} {d : Option Tmp} {t : TypeId} {pos : String} {af : Array Edge} {gd : Option (Nat × Bool)}
def looksP (σ : Store) : List (Nat × Operand) → Option (List (Nat × Value))
  | [] => some []
  | (i, x) :: xs => match look σ x with
    | some v => match looksP σ xs with
      | some vs => some ((i, v) :: vs)
      | none => none
    | none => none
theorem looksP_eq {ρ : Operand → Value} (h : Agree σ ρ) : ∀ (xs : List (Nat × Operand)) (vs : List (Nat × Value)), looksP σ xs = some vs → xs.map (fun p => (p.1, ρ p.2)) = vs
  | [], vs, e => by simp [looksP] at e; simp [e]
  | (i, x) :: xs, vs, e => by
    simp only [looksP] at e
    cases hx : look σ x with
    | none => rw [hx] at e; simp at e
    | some v =>
      rw [hx] at e
      cases hxs : looksP σ xs with
      | none => rw [hxs] at e; simp at e
      | some us =>
        rw [hxs] at e
        simp at e
        subst e
        rw [List.map_cons, h x v hx, looksP_eq h xs us hxs]
theorem ev_build {ty : TypeId} {pl : List (Nat × Nat)} [hU : UStruct P ty pl] {z : List Value} {sz b1 : Nat} [hS : USize P ty (.agg z.toArray) sz b1] {parts : List (Nat × Operand)} {vs : List (Nat × Value)} {r : List Value}
    (hp : looksP σ parts = some vs) (hr : fillV pl z vs = some r) : Ev P σ H ⟨d, .build ty parts.toArray, t, pos, af, gd⟩ (.agg r.toArray) := by
  unfold Ev
  intro ρ w hρ _
  obtain ⟨fs, h1, h2⟩ := hU.out
  obtain ⟨ii, hii, hz, hsz, _⟩ := hS.info
  have e1 := looksP_eq hρ _ _ hp
  have e2 := fillV_eq vs z r hr
  have e3 : P.built ty vs = some r.toArray := by
    unfold Program.built
    simp only [hii, h1, hz, h2, List.getElem?_toArray]
    exact e2
  have e4 : (parts.toArray.map fun (p : Nat × Operand) => (p.1, ρ p.2)).toList = vs := by simp [← e1]
  have e5 := _root_.Go.run_build (P := P) w ty (parts.toArray.map fun (p : Nat × Operand) => (p.1, ρ p.2)) r.toArray (by rw [e4]; exact e3)
  simp only [execOp, Sem.run_bind, e5, Result.andThen_ok, Sem.run_pure]
end
end Go.Eng

namespace Go.Eng
open Go Go.RowKit

def wpHeld (P : Program) (ops : Array Oper) (Q : Exit → Act → World → Prop) (S : World → Prop) : List (Nat × Nat) → Act → World → Prop
  | [], a, w => Q .normal a w
  | (i, 0) :: r, a, w => ∃ o v, ops[i]? = some o ∧ YieldsIf P ops S o v a ∧ wpHeld P ops Q S r (a.put o.dst v) w
  | (i, _ + 1) :: r, a, w => wpOp P ops Q i (fun a' w' => S w' ∧ wpHeld P ops Q S r a' w') a w
section
variable {P : Program} {ops : Array Oper} {Q : Exit → Act → World → Prop} {S : World → Prop}
end

/-- a region whose order is drawn, in the order of r, under S -/
def TH (P : Program) (N : Fm) (l : List Oper) (Q : Exit → Act → World → Prop) (S : World → Prop) (r : List (Nat × Nat)) (σ : Store) (w : World) : Prop :=
  ∀ a, Rep N σ a → wpHeld P l.toArray (Only Q) S r a w
def HeldK (P : Program) (l : List Oper) (Q : Exit → Act → World → Prop) (S : World → Prop) (r : List (Nat × Nat)) (a : Act) (w : World) : Prop := S w ∧ wpHeld P l.toArray (Only Q) S r a w
section
variable {P : Program} {N : Fm} {Q : Exit → Act → World → Prop} {S : World → Prop} {σ : Store} {w : World} {l : List Oper}
theorem TH.nil (h : G N .normal Q σ w) : TH P N l Q S [] σ w := by
  unfold G at h
  exact fun a ha => h a ha
theorem TH.s {i : Nat} {r : List (Nat × Nat)} {d : Nat} {op : Op} {t : TypeId} {pos : String} {af : Array Edge} {v : Value} (hi : pick1 l i = some ⟨some d, op, t, pos, af, none⟩)
    (h : ∀ w', S w' → Ev P σ w'.heap ⟨some d, op, t, pos, af, none⟩ v) (hd : Nat.blt d N.n = true) (k : TH P N l Q S r ((d, v) :: σ) w) : TH P N l Q S ((i, 0) :: r) σ w := fun a ha =>
  ⟨_, v, pick_at hi, .inl ⟨by simp [Region.wanted], fun w' hw' => by have := h w' hw'; unfold Ev at this; exact this _ w' ha.agree rfl⟩, k _ (ha.put hd v)⟩
theorem TH.e {i k : Nat} {r : List (Nat × Nat)} {o : Oper} (hi : pick1 l i = some o) (h : TL P N .seq l.toArray (Only (Exit.then (HeldK P l Q S r) Q)) [o] σ w) : TH P N l Q S ((i, k + 1) :: r) σ w := fun a ha => by
  unfold TL at h
  exact wpOp_of_wpList (pick_at hi) (h a ha)
theorem G.held {r : List (Nat × Nat)} (hS : S w) (h : TH P N l Q S r σ w) : G N .normal (Exit.then (HeldK P l Q S r) Q) σ w := by
  unfold G
  exact fun a ha => ⟨hS, h a ha⟩
end
attribute [irreducible] TH HeldK

end Go.Eng

namespace Go.Eng
open Go Go.RowKit

/-- block b holds just the cells cs -/
def Vr (H : Array Obj) (b : Nat) (t : TypeId) (cs : List Value) : Prop := H[b]? = some (.cells cs.toArray t (0, 0))
theorem Vr.lt {H : Array Obj} {b : Nat} {t : TypeId} {cs : List Value} (h : Vr H b t cs) : b < H.size := (Array.getElem?_eq_some_iff.1 h).1
theorem Vr.ext {w w' : World} {b : Nat} {t : TypeId} {cs : List Value} (hb : Ext w w') (h : Vr w.heap b t cs) : Vr w'.heap b t cs := (hb.block b h.lt).trans h
theorem Vr.below {w w' : World} {B b : Nat} {t : TypeId} {cs : List Value} (hb : RowKit.Below B w w') (hlt : b < B) (h : Vr w.heap b t cs) : Vr w'.heap b t cs := (hb.block b hlt).trans h
theorem Vr.upd {w w' : World} {b g : Nat} {t : TypeId} {cs : List Value} (hu : Upd g w w') (hne : b ≠ g) (h : Vr w.heap b t cs) : Vr w'.heap b t cs := (hu.block b hne).trans h
theorem Vr.cell {H : Array Obj} {b : Nat} {t : TypeId} {cs : List Value} (h : Vr H b t cs) (i : Nat) : hcell H b i = cs[i]? := by
  unfold hcell; rw [h]; simp
/-- vs over cs from off on, if there is room -/
def putO : List Value → Nat → List Value → Option (List Value)
  | cs, _, [] => some cs
  | [], _, _ :: _ => none
  | c :: cs, 0, v :: vs => match putO cs 0 vs with
    | some l => some (v :: l)
    | none => none
  | c :: cs, off + 1, v :: vs => match putO cs off (v :: vs) with
    | some l => some (c :: l)
    | none => none
theorem putO_eq : ∀ (cs : List Value) (off : Nat) (vs r : List Value), putO cs off vs = some r → vs = [] ∧ r = cs ∨ off + vs.length ≤ cs.length ∧ r = cs.take off ++ vs ++ cs.drop (off + vs.length)
  | cs, off, [], r, h => by simp [putO] at h; exact .inl ⟨rfl, h.symm⟩
  | [], off, v :: vs, r, h => by simp [putO] at h
  | c :: cs, 0, v :: vs, r, h => by
    simp only [putO] at h
    cases hq : putO cs 0 vs with
    | none => rw [hq] at h; simp at h
    | some l =>
      rw [hq] at h; simp at h; subst h
      right
      rcases putO_eq cs 0 vs l hq with ⟨rfl, rfl⟩ | ⟨h1, rfl⟩
      · simp
      · simp only [List.length_cons, List.take_zero, List.nil_append, List.cons_append]
        refine ⟨by omega, ?_⟩
        rw [show 0 + (vs.length + 1) = (0 + vs.length) + 1 by omega, List.drop_succ_cons]
  | c :: cs, off + 1, v :: vs, r, h => by
    simp only [putO] at h
    cases hq : putO cs off (v :: vs) with
    | none => rw [hq] at h; simp at h
    | some l =>
      rw [hq] at h; simp at h; subst h
      right
      rcases putO_eq cs off (v :: vs) l hq with ⟨h1, _⟩ | ⟨h1, rfl⟩
      · cases h1
      · simp only [List.length_cons] at h1 ⊢
        refine ⟨by omega, ?_⟩
        rw [show off + 1 + (vs.length + 1) = (off + (vs.length + 1)) + 1 by omega, List.drop_succ_cons, List.take_succ_cons]
        rfl
section
variable {P : Program} {σ : Store} {H : Array Obj} {d : Option Tmp} {t : TypeId} {pos : String} {af : Array Edge} {gd : Option (Nat × Bool)}
/-- a variable's cell read -/
theorem ev_loadV {x : Operand} {ty e : TypeId} [hO : UOne P ty] {b o : Nat} {cs : List Value} {v : Value} (hx : look σ x = some (.pointer (some ⟨b, o, none⟩))) (hV : Vr H b e cs) (hv : nthV cs o = some v) : Ev P σ H ⟨d, .load ty x, t, pos, af, gd⟩ v :=
  ev_load hx (by rw [hV.cell, ← nthV_eq]; exact hv)
/-- a struct read out of a variable -/
theorem ev_loadVA {x : Operand} {ty e : TypeId} [hA : UAgg P ty] {z : Value} {sz b1 : Nat} [hS : USize P ty z sz b1] {b o : Nat} {cs cs' : List Value} (hx : look σ x = some (.pointer (some ⟨b, o, none⟩))) (hV : Vr H b e cs) (hv : subV cs o sz = some cs') :
    Ev P σ H ⟨d, .load ty x, t, pos, af, gd⟩ (.agg cs'.toArray) := by
  unfold Ev
  intro ρ w hρ hH
  obtain ⟨fs, hfs⟩ := hA.out
  obtain ⟨ii, hii, _, hsz, _⟩ := hS.info
  have hl : ∀ {n off : Nat} {l : List Value}, subV cs off n = some l → l.length = n := by
    intro n
    induction n with
    | zero => intro off l h; simp [subV] at h; subst h; rfl
    | succ n ih =>
      intro off l h
      simp only [subV] at h
      cases h1 : nthV cs off with
      | none => rw [h1] at h; simp at h
      | some v =>
        rw [h1] at h
        cases h2 : subV cs (off + 1) n with
        | none => rw [h2] at h; simp at h
        | some l' => rw [h2] at h; simp at h; subst h; simp [ih h2]
  have hlen := hl hv
  have e := subV_eq hv
  have hr : w.rangeAt b o cs' := fun j u hu => by
    rw [cell_of_hcell, hH, hV.cell]
    have hj := (List.getElem?_eq_some_iff.1 hu).1
    rw [← e, List.getElem?_take, if_pos (by omega), List.getElem?_drop] at hu
    exact hu
  have := run_loadAt_mid (P := P) w b o ty cs' _ hr hfs rfl (by rw [hii]; simp [hsz, hlen])
  simp [execOp, hρ x _ hx, this]
end
section
variable {P : Program} {N : Fm} {Q : Exit → Act → World → Prop} {σ : Store} {w : World} {ops : Array Oper} {d : Nat} {t : TypeId} {pos : String} {af : Array Edge} {rest : List Oper}
theorem TL.box {x : Operand} {ty : TypeId} {v : Value} (hx : look σ x = some v) (hd : Nat.blt d N.n = true)
    (K : ∀ w' b, b = w.heap.size → Vr w'.heap b ty v.cells.toList → Ext w w' → w'.heap.size = w.heap.size + 1 → TL P N .seq ops Q rest ((d, .pointer (some ⟨b, 0, none⟩)) :: σ) w') :
    TL P N .seq ops Q (⟨some d, .box ty x, t, pos, af, none⟩ :: rest) σ w := by
  refine TL.op (w' := w.alloc (.cells v.cells ty)) (fun ρ hρ => ?_) hd (K _ _ rfl (by unfold Vr; rw [heap_alloc]) (ext_alloc _ _) (size_alloc _ _))
  simp [execOp, hρ x _ hx, Instr.box, newVar, newRow]
theorem TL.boxA {x : Operand} {ty : TypeId} {cs : List Value} (hx : look σ x = some (.agg cs.toArray)) (hd : Nat.blt d N.n = true)
    (K : ∀ w' b, b = w.heap.size → Vr w'.heap b ty cs → Ext w w' → w'.heap.size = w.heap.size + 1 → TL P N .seq ops Q rest ((d, .pointer (some ⟨b, 0, none⟩)) :: σ) w') :
    TL P N .seq ops Q (⟨some d, .box ty x, t, pos, af, none⟩ :: rest) σ w := TL.box hx hd K
theorem TL.alloc {ty : TypeId} {z : Value} {sz b1 : Nat} [hS : USize P ty z sz b1] (hd : Nat.blt d N.n = true)
    (K : ∀ w' b, b = w.heap.size → Vr w'.heap b ty z.cells.toList → Ext w w' → w'.heap.size = w.heap.size + 1 → TL P N .seq ops Q rest ((d, .pointer (some ⟨b, 0, none⟩)) :: σ) w') :
    TL P N .seq ops Q (⟨some d, .alloc ty, t, pos, af, none⟩ :: rest) σ w := by
  obtain ⟨ii, hii, hz, hsz, _⟩ := hS.info
  refine TL.op (w' := w.alloc (.cells z.cells ty)) (fun ρ hρ => ?_) hd (K _ _ rfl (by unfold Vr; rw [heap_alloc]) (ext_alloc _ _) (size_alloc _ _))
  simp [execOp, Instr.alloc, zeroValue, typeInfo, hii, hz, newVar, newRow]
/-- cells stored into a variable -/
theorem TL.storeC {x y : Operand} {ty e : TypeId} {z : Value} {sz b1 : Nat} [hS : USize P ty z sz b1] {b o : Nat} {cs r vs : List Value} {v : Value} (hx : look σ x = some (.pointer (some ⟨b, o, none⟩))) (hy : look σ y = some v) (hvs : v.cells.toList = vs)
    (hsz : Nat.beq vs.length sz = true) (h1 : vs.all (·.oneCell') = true) (hV : Vr w.heap b e cs) (hr : putO cs o vs = some r)
    (K : ∀ w', Vr w'.heap b e r → Upd b w w' → TL P N .seq ops Q rest σ w') : TL P N .seq ops Q (⟨none, .store ty x y, t, pos, af, none⟩ :: rest) σ w := by
  obtain ⟨ii, hii, _, hsz', _⟩ := hS.info
  have hlen : vs.length = sz := Nat.eq_of_beq_eq_true hsz
  have hsize : v.cells.size = sz := by rw [← Array.length_toList, hvs, hlen]
  rcases putO_eq _ _ _ _ hr with ⟨rfl, rfl⟩ | ⟨hb, rfl⟩
  · refine TL.op0 (fun ρ hρ => ?_) (K w hV (upd_refl _ _))
    have hs0 : sz = 0 := by simpa using hlen.symm
    simp [execOp, hρ x _ hx, hρ y _ hy, Instr.storeAt, Instr.sureAddr, storeVar, sizeOf, typeInfo, hii, hsz', hsize, hvs, storeCells]
  · have hst := run_storeCells_at P b o e vs 0 cs.toArray w hV (by simpa using hb) (fun u hu => (List.all_eq_true.1 h1) u hu)
    simp only [Nat.add_zero] at hst
    refine TL.op0 (w' := w.setRow b (cs.take o ++ vs ++ cs.drop (o + vs.length)).toArray) (fun ρ hρ => ?_) (K _ ?_ (upd_setRow _ _ _))
    · simp [execOp, hρ x _ hx, hρ y _ hy, Instr.storeAt, Instr.sureAddr, storeVar, sizeOf, typeInfo, hii, hsz', hsize, hvs]
      rw [hst]
      simp
    · unfold Vr at hV ⊢
      rw [setRow_heap w b _ _ e _ hV]
/-- a value of one cell stored into a variable -/
theorem TL.storeV {x y : Operand} {ty e : TypeId} {z : Value} {b1 : Nat} [hS : USize P ty z 1 b1] {b o : Nat} {cs r : List Value} {v : Value} (hx : look σ x = some (.pointer (some ⟨b, o, none⟩))) (hy : look σ y = some v) (hvs : v.cells.toList = [v])
    (h1 : v.oneCell' = true) (hV : Vr w.heap b e cs) (hr : putO cs o [v] = some r) (K : ∀ w', Vr w'.heap b e r → Upd b w w' → TL P N .seq ops Q rest σ w') : TL P N .seq ops Q (⟨none, .store ty x y, t, pos, af, none⟩ :: rest) σ w :=
  TL.storeC hx hy hvs rfl (by simp [h1]) hV hr K
/-- a struct stored into a variable -/
theorem TL.storeVA {x y : Operand} {ty e : TypeId} {z : Value} {sz b1 : Nat} [hS : USize P ty z sz b1] {b o : Nat} {cs r vs : List Value} (hx : look σ x = some (.pointer (some ⟨b, o, none⟩))) (hy : look σ y = some (.agg vs.toArray))
    (hsz : Nat.beq vs.length sz = true) (h1 : vs.all (·.oneCell') = true) (hV : Vr w.heap b e cs) (hr : putO cs o vs = some r)
    (K : ∀ w', Vr w'.heap b e r → Upd b w w' → TL P N .seq ops Q rest σ w') : TL P N .seq ops Q (⟨none, .store ty x y, t, pos, af, none⟩ :: rest) σ w :=
  TL.storeC hx hy rfl hsz h1 hV hr K
end
end Go.Eng

namespace Go.Eng
open Go Go.RowKit

/-- a tree of orders: s: taken first; e: an effect; alt: one of several -/
inductive Rt where
  | nil
  | s (i : Nat) (r : Rt)
  | e (i : Nat) (r : Rt)
  | alt (a b : Rt)
def Rt.heads : Rt → List Nat
  | .e i _ => [i]
  | .alt a b => a.heads ++ b.heads
  | _ => []
def afters (ops : Array Oper) (j : Nat) : List Nat := match ops[j]? with
  | some o => (o.after.toList.filter (fun e => Region.binds .any e)).map (·.on)
  | none => []
def ins : List Nat → List Nat → List Nat
  | [], acc => acc
  | j :: l, acc => ins l (if acc.contains j then acc else j :: acc)
def clos (ops : Array Oper) : Nat → List Nat → List Nat
  | 0, l => l
  | n + 1, l => clos ops n (ins (l.flatMap (afters ops)) l)
theorem mem_ins : ∀ (l acc : List Nat) (j : Nat), j ∈ ins l acc → j ∈ l ∨ j ∈ acc
  | [], acc, j, h => .inr h
  | x :: l, acc, j, h => by
    rcases mem_ins l _ j h with h | h
    · exact .inl (List.mem_cons_of_mem _ h)
    · split at h
      · exact .inr h
      · rcases List.mem_cons.1 h with rfl | h
        · exact .inl (List.mem_cons_self ..)
        · exact .inr h
theorem afters_listed {ops : Array Oper} {L : Array Bool} (inv : CInv ops L) {j i : Nat} (hj : L.getD j false = true) (hi : i ∈ afters ops j) : L.getD i false = true := by
  unfold afters at hi
  cases ho : ops[j]? with
  | none => rw [ho] at hi; cases hi
  | some o =>
    rw [ho] at hi
    obtain ⟨e, he, rfl⟩ := List.mem_map.1 hi
    have := List.mem_filter.1 he
    exact inv.closed j o ho hj e (by simpa using this.1) this.2
theorem clos_listed {ops : Array Oper} {L : Array Bool} (inv : CInv ops L) : ∀ (n : Nat) (l : List Nat), (∀ j ∈ l, L.getD j false = true) → ∀ j ∈ clos ops n l, L.getD j false = true
  | 0, l, h, j, hj => h j hj
  | n + 1, l, h, j, hj => clos_listed inv n _ (fun k hk => by
    rcases mem_ins _ _ _ hk with hk | hk
    · obtain ⟨q, hq, hk⟩ := List.mem_flatMap.1 hk
      exact afters_listed inv (h q hq) hk
    · exact h k hk) j hj
/-- i comes before f in every order -/
def before (ops : Array Oper) (f i : Nat) : Bool := Nat.ble ops.size f || (clos ops ops.size (afters ops f)).contains i
theorem before_spec {ops : Array Oper} {L : Array Bool} (inv : CInv ops L) {f i : Nat} (h : before ops f i = true) (hi : L.getD i false = false) : f ∉ Region.ready .any ops L := by
  intro hr
  obtain ⟨_, o, ho, hall⟩ := mem_ready.1 hr
  simp only [before, Bool.or_eq_true, Nat.ble_eq] at h
  rcases h with h | h
  · have := (Array.getElem?_eq_some_iff.1 ho).1; omega
  · have := clos_listed inv ops.size (afters ops f) (fun j hj => by
      unfold afters at hj
      rw [ho] at hj
      obtain ⟨e, he, rfl⟩ := List.mem_map.1 hj
      have h2 := List.mem_filter.1 he
      exact hall e (by simpa using h2.1) h2.2) i (by simpa using h)
    rw [this] at hi; cases hi
def Rt.depth : Rt → Nat
  | .nil => 0
  | .s _ r => r.depth + 1
  | .e _ r => r.depth + 1
  | .alt a b => max a.depth b.depth
def Rt.isNil : Rt → Bool
  | .nil => true
  | _ => false
def treeC (ops : Array Oper) (f : Nat) : Rt → Bool → Array Bool → Bool
  | .nil, _, L => (Region.ready .any ops L).isEmpty
  | .s i r, _, L => (Region.ready .any ops L).contains i && Region.free .any ops L i && !Nat.beq i f && before ops f i && treeC ops f r true (L.setIfInBounds i true)
  | .e i r, top, L => (!top || decide (Region.ready .any ops L = [i])) && (!Nat.beq i f || r.isNil) && treeC ops f r true (L.setIfInBounds i true)
  | .alt a b, top, L => (!top || (decide (Region.ready .any ops L = a.heads ++ b.heads) && !(a.heads ++ b.heads).isEmpty)) && treeC ops f a false L && treeC ops f b false L
def treeB (ops : Array Oper) (f : Nat) (t : Rt) : Bool := Region.noSelect ops && Nat.ble t.depth ops.size && treeC ops f t true (Array.replicate ops.size false)
/-- whatever order is drawn; behind all operations but f, S holds -/
def wpAnyF (P : Program) (ops : Array Oper) (Q : Exit → Act → World → Prop) (S : World → Prop) (f : Nat) : Nat → Array Bool → Act → World → Prop
  | 0, L, a, w => Region.ready .any ops L = [] ∧ Q .normal a w
  | n + 1, L, a, w => (Region.ready .any ops L = [] → Q .normal a w) ∧ ∀ i ∈ Region.ready .any ops L, wpOp P ops Q i (fun a' w' => (i ≠ f → S w') ∧ wpAnyF P ops Q S f n (L.setIfInBounds i true) a' w') a w
def wpTree (P : Program) (ops : Array Oper) (Q : Exit → Act → World → Prop) (S : World → Prop) (f : Nat) : Rt → Act → World → Prop
  | .nil, a, w => Q .normal a w
  | .s i r, a, w => ∃ o v, ops[i]? = some o ∧ YieldsIf P ops S o v a ∧ wpTree P ops Q S f r (a.put o.dst v) w
  | .e i r, a, w => wpOp P ops Q i (fun a' w' => (i ≠ f → S w') ∧ wpTree P ops Q S f r a' w') a w
  | .alt x y, a, w => wpTree P ops Q S f x a w ∧ wpTree P ops Q S f y a w
section
variable {P : Program} {ops : Array Oper} {Q : Exit → Act → World → Prop} {S : World → Prop} {f : Nat}
theorem wpAny_of_F : ∀ (n : Nat) (L : Array Bool) (a : Act) (w : World), wpAnyF P ops Q S f n L a w → wpAny P .any ops Q n L a w
  | 0, _, _, _, h => h
  | n + 1, _, _, _, h => ⟨h.1, fun i hi => wpOp_mono (fun a' w' h' => wpAny_of_F n _ a' w' h'.2) (h.2 i hi)⟩
theorem wpAnyF_more : ∀ (n : Nat) (L : Array Bool) (a : Act) (w : World), wpAnyF P ops Q S f n L a w → wpAnyF P ops Q S f (n + 1) L a w
  | 0, L, a, w, h => ⟨fun _ => h.2, fun i hi => by rw [h.1] at hi; cases hi⟩
  | n + 1, L, a, w, h => ⟨h.1, fun i hi => wpOp_mono (fun a' w' h' => ⟨h'.1, wpAnyF_more n _ a' w' h'.2⟩) (h.2 i hi)⟩
theorem wpAnyF_le {n m : Nat} (hm : n ≤ m) {L : Array Bool} {a : Act} {w : World} (h : wpAnyF P ops Q S f n L a w) : wpAnyF P ops Q S f m L a w := by
  induction hm with
  | refl => exact h
  | step _ ih => exact wpAnyF_more _ _ _ _ ih
theorem wpAnyF_first {i : Nat} {oi : Oper} {v : Value} (hi : ops[i]? = some oi) (hif : i ≠ f) (hbf : before ops f i = true) (hsel : ∀ (j : Nat) (o : Oper) cs b, ops[j]? = some o → o.op ≠ .select cs b)
    (hQ : ∀ c a w, Q (.panic c) (a.put oi.dst v) w → Q (.panic c) a w) :
    ∀ (n : Nat) (L : Array Bool) (a : Act) (w : World), CInv ops L →
      (∀ j oj, ops[j]? = some oj → j ≠ i → L.getD j true = false → (∀ e ∈ oj.after, Region.binds .any e = true → e.on ≠ i) → oi.apart ops oj = true) →
      i ∈ Region.ready .any ops L → YieldsIf P ops S oi v a → S w →
      wpAnyF P ops Q S f n (L.setIfInBounds i true) (a.put oi.dst v) w → wpAnyF P ops Q S f (n + 1) L a w := by
  intro n
  induction n with
  | zero =>
    intro L a w inv _ hr hy hS H
    refine ⟨fun h => (by rw [h] at hr; cases hr), fun j hj => ?_⟩
    by_cases hji : j = i
    · subst hji; exact hy.wpOp hi hS ⟨fun _ => hS, H⟩
    · have := ready_mono hj hji
      rw [H.1] at this
      cases this
  | succ n ih =>
    intro L a w inv hfree hr hy hS H
    refine ⟨fun h => (by rw [h] at hr; cases hr), fun j hj => ?_⟩
    by_cases hji : j = i
    · subst hji; exact hy.wpOp hi hS ⟨fun _ => hS, H⟩
    · have h1 := H.2 j (ready_mono hj hji)
      obtain ⟨hjun, oj, hoj, hall⟩ := mem_ready.1 hj
      have hun := (mem_ready.1 hr).1
      have hun' : L.getD i false = false := getD_both hun
      have hjf : j ≠ f := fun e => by subst e; exact before_spec inv hbf hun' hj
      have hnot : ∀ e ∈ oj.after, Region.binds .any e = true → e.on ≠ i := fun e he hb heq => by
        have h1 := hall e he hb
        rw [heq, hun'] at h1
        cases h1
      have h2 := wpOp_putIf hoj (hfree j oj hoj hji hjun hnot) (fun cs b => hsel i oi cs b hi) (fun cs b => hsel j oj cs b hoj) hQ hy h1
      have hfree' : ∀ k ok, ops[k]? = some ok → k ≠ i → (L.setIfInBounds j true).getD k true = false →
          (∀ e ∈ ok.after, Region.binds .any e = true → e.on ≠ i) → oi.apart ops ok = true := fun k ok hk hki hun hno => by
        refine hfree k ok hk hki ?_ hno
        by_cases hjk : j = k
        · subst hjk; exact hjun
        · rw [getD_set_ne true hjk] at hun; exact hun
      refine wpOp_mono (fun a' w' h3 => ⟨fun _ => h3.2.1 hjf, ih (L.setIfInBounds j true) a' w' (inv.set hj) hfree' (ready_mono hr (Ne.symm hji)) h3.1 (h3.2.1 hjf) ?_⟩) h2
      rw [Array.setIfInBounds_comm _ _ hji]
      exact h3.2.2
theorem wpTree_both (hsel : Region.noSelect ops = true) (hQ : ∀ c a w, ¬ Q (.panic c) a w) (t : Rt) :
    (∀ (n : Nat) (L : Array Bool) (a : Act) (w : World), CInv ops L → t.depth ≤ n → treeC ops f t true L = true → (t = .nil ∨ S w) → wpTree P ops Q S f t a w → wpAnyF P ops Q S f n L a w) ∧
    (∀ (n : Nat) (L : Array Bool) (a : Act) (w : World), CInv ops L → t.depth ≤ n + 1 → treeC ops f t false L = true → wpTree P ops Q S f t a w → (∀ i ∈ t.heads, i ∈ Region.ready .any ops L) →
      ∀ i ∈ t.heads, wpOp P ops Q i (fun a' w' => (i ≠ f → S w') ∧ wpAnyF P ops Q S f n (L.setIfInBounds i true) a' w') a w) := by
  induction t with
  | nil =>
    refine ⟨fun n L a w inv hd hC hS h => ?_, fun n L a w inv hd hC h hr i hi => by cases hi⟩
    refine wpAnyF_le (Nat.zero_le n) ⟨?_, h⟩
    simpa [treeC] using hC
  | s i r ih =>
    refine ⟨fun n L a w inv hd hC hS h => ?_, fun n L a w inv hd hC h hr i hi => by cases hi⟩
    simp only [treeC, Bool.and_eq_true, Bool.not_eq_true'] at hC
    obtain ⟨⟨⟨⟨hrd, hf⟩, hif0⟩, hbf⟩, hC'⟩ := hC
    have hif : i ≠ f := fun e => by subst e; simp at hif0
    obtain ⟨o, v, ho, hy, h'⟩ := h
    have hS' : S w := hS.resolve_left (by simp)
    obtain ⟨m, rfl⟩ : ∃ m, n = m + 1 := ⟨n - 1, by simp only [Rt.depth] at hd; omega⟩
    have hrd' : i ∈ Region.ready .any ops L := by simpa using hrd
    exact wpAnyF_first ho hif hbf (Region.noSelect_spec hsel) (fun c a w h => absurd h (hQ _ _ _)) m L a w inv (Region.free_spec ho hf) hrd' hy hS'
      (ih.1 m _ _ w (inv.set hrd') (by simp only [Rt.depth] at hd; omega) hC' (.inr hS') h')
  | e i r ih =>
    have hd2 : ∀ (top : Bool) (n : Nat) (L : Array Bool) (a : Act) (w : World), CInv ops L → r.depth ≤ n → treeC ops f (.e i r) top L = true → wpTree P ops Q S f (.e i r) a w → i ∈ Region.ready .any ops L →
        wpOp P ops Q i (fun a' w' => (i ≠ f → S w') ∧ wpAnyF P ops Q S f n (L.setIfInBounds i true) a' w') a w := by
      intro top n L a w inv hd hC h hr
      simp only [treeC, Bool.and_eq_true] at hC
      obtain ⟨⟨_, hnil⟩, hC'⟩ := hC
      refine wpOp_mono (fun a' w' h' => ⟨h'.1, ih.1 n _ a' w' (inv.set hr) hd hC' ?_ h'.2⟩) h
      by_cases hif : i = f
      · left
        simp only [hif, Bool.or_eq_true, Bool.not_eq_true'] at hnil
        rcases hnil with hnil | hnil
        · simp at hnil
        · cases r <;> simp_all [Rt.isNil]
      · exact .inr (h'.1 hif)
    refine ⟨fun n L a w inv hd hC hS h => ?_, fun n L a w inv hd hC h hr j hj => ?_⟩
    · have hC2 := hC
      simp only [treeC, Bool.and_eq_true, Bool.not_true, Bool.false_or, decide_eq_true_eq] at hC2
      have hrd := hC2.1.1
      obtain ⟨m, rfl⟩ : ∃ m, n = m + 1 := ⟨n - 1, by simp only [Rt.depth] at hd; omega⟩
      refine ⟨fun h0 => (by rw [hrd] at h0; cases h0), fun j hj => ?_⟩
      rw [hrd] at hj
      obtain rfl : j = i := by simpa using hj
      exact hd2 true m L a w inv (by simp only [Rt.depth] at hd; omega) hC h (by rw [hrd]; simp)
    · obtain rfl : j = i := by simpa [Rt.heads] using hj
      exact hd2 false n L a w inv (by simp only [Rt.depth] at hd; omega) hC h (hr j (by simp [Rt.heads]))
  | alt x y ihx ihy =>
    have hd2 : ∀ (top : Bool) (n : Nat) (L : Array Bool) (a : Act) (w : World), CInv ops L → (Rt.alt x y).depth ≤ n + 1 → treeC ops f (.alt x y) top L = true → wpTree P ops Q S f (.alt x y) a w → (∀ i ∈ (Rt.alt x y).heads, i ∈ Region.ready .any ops L) →
        ∀ i ∈ (Rt.alt x y).heads, wpOp P ops Q i (fun a' w' => (i ≠ f → S w') ∧ wpAnyF P ops Q S f n (L.setIfInBounds i true) a' w') a w := by
      intro top n L a w inv hd hC h hr i hi
      simp only [treeC, Bool.and_eq_true] at hC
      simp only [Rt.depth] at hd
      simp only [Rt.heads] at hr hi
      rcases List.mem_append.1 hi with hi | hi
      · exact ihx.2 n L a w inv (by omega) hC.1.2 h.1 (fun k hk => hr k (List.mem_append_left _ hk)) i hi
      · exact ihy.2 n L a w inv (by omega) hC.2 h.2 (fun k hk => hr k (List.mem_append_right _ hk)) i hi
    refine ⟨fun n L a w inv hd hC hS h => ?_, fun n L a w inv hd hC h hr => hd2 false n L a w inv hd hC h hr⟩
    have hC2 := hC
    simp only [treeC, Bool.and_eq_true, Bool.not_true, Bool.false_or, decide_eq_true_eq, Bool.not_eq_true'] at hC2
    obtain ⟨⟨⟨hrd, hne⟩, _⟩, _⟩ := hC2
    have hdp : 0 < (Rt.alt x y).depth := by
      rcases Nat.eq_zero_or_pos (Rt.alt x y).depth with h0 | h0
      · exfalso
        simp only [Rt.depth] at h0
        have hx : ∀ t : Rt, t.depth = 0 → t.heads = [] := by
          intro t
          induction t with
          | nil => intro _; rfl
          | s i r _ => intro h; simp [Rt.depth] at h
          | e i r _ => intro h; simp [Rt.depth] at h
          | alt a b iha ihb => intro h; simp only [Rt.depth] at h; simp [Rt.heads, iha (by omega), ihb (by omega)]
        rw [hx x (by omega), hx y (by omega)] at hne
        simp at hne
      · exact h0
    obtain ⟨m, rfl⟩ : ∃ m, n = m + 1 := ⟨n - 1, by omega⟩
    refine ⟨fun h0 => ?_, fun j hj => ?_⟩
    · rw [hrd] at h0; rw [h0] at hne; simp at hne
    · exact hd2 true m L a w inv hd hC h (fun i hi => by rw [hrd]; exact hi) j (by rw [hrd] at hj; exact hj)
theorem wp_region_tree {id : Nat} {a : Act} {w : World} {l : List Oper} (f : Nat) (t : Rt) (hm : P.follows .mixedOrders = true) (hB : treeB l.toArray f t = true) (hS : S (w.drewN 1))
    (h : wpTree P l.toArray (Only Q) S f t a (w.drewN 1)) : (Code.region id l.toArray true).wp P Q a w := by
  simp only [treeB, Bool.and_eq_true, Nat.ble_eq] at hB
  obtain ⟨⟨hsel, hd⟩, hC⟩ := hB
  refine wp_mono (Q := Only Q) (wp_region_any hm (wpAny_of_F (S := S) (f := f) _ _ _ _ ?_)) ?_
  · exact (wpTree_both (P := P) (Q := Only Q) (S := S) (f := f) hsel (fun _ _ _ h => h.elim) t).1 _ _ _ _ ⟨by simp, fun j oj _ hl => (by rw [getD_replicate_false] at hl; cases hl)⟩ hd hC (.inr hS) h
  · intro e a w he
    cases e <;> first | exact he | exact he.elim
end

/-- a region whose order is drawn, by the tree t, under S; the operation f comes last -/
def TF (P : Program) (N : Fm) (l : List Oper) (Q : Exit → Act → World → Prop) (S : World → Prop) (f : Nat) (t : Rt) (σ : Store) (w : World) : Prop :=
  ∀ a, Rep N σ a → wpTree P l.toArray (Only Q) S f t a w
def TreeK (P : Program) (l : List Oper) (Q : Exit → Act → World → Prop) (S : World → Prop) (f i : Nat) (t : Rt) (a : Act) (w : World) : Prop := (i ≠ f → S w) ∧ wpTree P l.toArray (Only Q) S f t a w
section
variable {P : Program} {N : Fm} {Q : Exit → Act → World → Prop} {S : World → Prop} {σ : Store} {w : World} {l : List Oper} {f : Nat}
theorem T.regionF (S : World → Prop) {id : Nat} (f : Nat) (t : Rt) (hm : P.follows .mixedOrders = true) (hB : treeB l.toArray f t = true) (hS : S (w.drewN 1)) (h : TF P N l Q S f t σ (w.drewN 1)) : T P N (.region id l.toArray true) Q σ w := by
  unfold T
  exact fun a ha => wp_region_tree (S := S) f t hm hB hS (h a ha)
/-- .. where all that stands stays, until the last operation -/
theorem T.regionE (id : Nat) (f : Nat) (t : Rt) (hm : P.follows .mixedOrders = true) (hB : treeB l.toArray f t = true) (h : TF P N l Q (fun w' => Ext w w') f t σ (w.drewN 1)) : T P N (.region id l.toArray true) Q σ w :=
  T.regionF _ f t hm hB (ext_drewN w 1) h
theorem TF.nil (h : G N .normal Q σ w) : TF P N l Q S f .nil σ w := by
  unfold G at h
  exact fun a ha => h a ha
theorem TF.s {i : Nat} {t : Rt} {d : Nat} {op : Op} {ty : TypeId} {pos : String} {af : Array Edge} {v : Value} (hi : pick1 l i = some ⟨some d, op, ty, pos, af, none⟩)
    (h : ∀ w', S w' → Ev P σ w'.heap ⟨some d, op, ty, pos, af, none⟩ v) (hd : Nat.blt d N.n = true) (k : TF P N l Q S f t ((d, v) :: σ) w) : TF P N l Q S f (.s i t) σ w := fun a ha =>
  ⟨_, v, pick_at hi, .inl ⟨by simp [Region.wanted], fun w' hw' => by have := h w' hw'; unfold Ev at this; exact this _ w' ha.agree rfl⟩, k _ (ha.put hd v)⟩
theorem TF.e {i : Nat} {t : Rt} {o : Oper} (hi : pick1 l i = some o) (h : TL P N .seq l.toArray (Only (Exit.then (TreeK P l Q S f i t) Q)) [o] σ w) : TF P N l Q S f (.e i t) σ w := fun a ha => by
  unfold TL at h
  exact wpOp_of_wpList (pick_at hi) (h a ha)
theorem TF.alt {x y : Rt} (hx : TF P N l Q S f x σ w) (hy : TF P N l Q S f y σ w) : TF P N l Q S f (.alt x y) σ w := fun a ha => ⟨hx a ha, hy a ha⟩
theorem G.tree {i : Nat} {t : Rt} (hif : Nat.beq i f = false) (hS : S w) (h : TF P N l Q S f t σ w) : G N .normal (Exit.then (TreeK P l Q S f i t) Q) σ w := by
  unfold G
  exact fun a ha => ⟨fun _ => hS, h a ha⟩
theorem G.treeEnd {i : Nat} {t : Rt} (hif : Nat.beq i f = true) (h : TF P N l Q S f t σ w) : G N .normal (Exit.then (TreeK P l Q S f i t) Q) σ w := by
  unfold G
  exact fun a ha => ⟨fun hne => absurd (Nat.eq_of_beq_eq_true hif) hne, h a ha⟩
end
attribute [irreducible] TF TreeK

end Go.Eng

namespace Go.Eng
open Go Go.RowKit

section
variable {P : Program} {N : Fm} {Q : Exit → Act → World → Prop} {σ : Store} {w : World} {fn : Func} {R : Ending → World → Prop}
/-- the value of a variable that lies in memory -/
def Held (P : Program) (ty : TypeId) (w : World) (b : Nat) (v : Value) : Prop := (loadVar ty ⟨b, 0, none⟩).run P w = .ok v w
theorem held_agg {ty e : TypeId} [hA : UAgg P ty] {z : Value} {sz b1 : Nat} [hS : USize P ty z sz b1] {b : Nat} {cs : List Value} (hV : Vr w.heap b e cs) (hl : Nat.beq cs.length sz = true) : Held P ty w b (.agg cs.toArray) := by
  obtain ⟨fs, hfs⟩ := hA.out
  obtain ⟨ii, hii, _, hsz, _⟩ := hS.info
  have hlen := Nat.eq_of_beq_eq_true hl
  refine run_loadVar_mid (P := P) w b 0 ty cs _ (fun j u hu => ?_) hfs rfl (by rw [hii]; simp [hsz, hlen])
  rw [Nat.zero_add, cell_of_hcell, hV.cell]
  exact hu
theorem results_c1 {r : Tmp} {ty : TypeId} (h : fn.results = #[.cell r ty]) {tmps : Array Value} {b : Nat} {v : Value} (hr : tmps.getD r undef = .pointer (some ⟨b, 0, none⟩)) (hH : Held P ty w b v) : (results fn tmps).run P w = .ok v w := by
  unfold Held at hH
  simp [results, h]
  simp only [Array.getD_eq_getD_getElem?] at hr
  simp [hr, asAddr, hH]
theorem results_c2 {r s : Tmp} {ty : TypeId} (h : fn.results = #[.cell r ty, .tmp s]) {tmps : Array Value} {b : Nat} {v : Value} (hr : tmps.getD r undef = .pointer (some ⟨b, 0, none⟩)) (hH : Held P ty w b v) : (results fn tmps).run P w = .ok (.tuple #[v, tmps.getD s undef]) w := by
  unfold Held at hH
  simp [results, h]
  simp only [Array.getD_eq_getD_getElem?] at hr
  simp [hr, asAddr, hH]
theorem results_c3 {r s q : Tmp} {ty ty' : TypeId} (h : fn.results = #[.cell r ty, .cell s ty', .tmp q]) {tmps : Array Value} {b b' : Nat} {v v' : Value} (hr : tmps.getD r undef = .pointer (some ⟨b, 0, none⟩)) (hs : tmps.getD s undef = .pointer (some ⟨b', 0, none⟩)) (hH : Held P ty w b v) (hH' : Held P ty' w b' v') :
    (results fn tmps).run P w = .ok (.tuple #[v, v', tmps.getD q undef]) w := by
  unfold Held at hH hH'
  simp [results, h]
  simp only [Array.getD_eq_getD_getElem?] at hr hs
  simp [hr, hs, asAddr, hH, hH']
theorem G.retC1 {n : Nat} {r : Nat} {ty : TypeId} {b : Nat} {v : Value} (hr : fn.results = #[.cell r ty]) (hp : look1 σ r = some (.pointer (some ⟨b, 0, none⟩))) (hH : Held P ty w b v) (h : R (.returned v) w) : G ⟨n, []⟩ .ret (bodyPost P fn R) σ w := by
  unfold G
  exact fun a ha => bodyPost_ret (results_c1 hr (ha.get r _ hp) hH) ha.nodef h
theorem G.retC2 {n : Nat} {r s : Nat} {ty : TypeId} {b : Nat} {v u : Value} (hr : fn.results = #[.cell r ty, .tmp s]) (hp : look1 σ r = some (.pointer (some ⟨b, 0, none⟩))) (hu : look1 σ s = some u) (hH : Held P ty w b v) (h : R (.returned (.tuple #[v, u])) w) : G ⟨n, []⟩ .ret (bodyPost P fn R) σ w := by
  unfold G
  exact fun a ha => bodyPost_ret (results_c2 hr (ha.get r _ hp) hH) ha.nodef (by rw [ha.get s u hu]; exact h)
theorem G.retC3 {n : Nat} {r s q : Nat} {ty ty' : TypeId} {b b' : Nat} {v v' u : Value} (hr : fn.results = #[.cell r ty, .cell s ty', .tmp q]) (hp : look1 σ r = some (.pointer (some ⟨b, 0, none⟩))) (hp' : look1 σ s = some (.pointer (some ⟨b', 0, none⟩))) (hu : look1 σ q = some u)
    (hH : Held P ty w b v) (hH' : Held P ty' w b' v') (h : R (.returned (.tuple #[v, v', u])) w) : G ⟨n, []⟩ .ret (bodyPost P fn R) σ w := by
  unfold G
  exact fun a ha => bodyPost_ret (results_c3 hr (ha.get r _ hp) (ha.get s _ hp') hH hH') ha.nodef (by rw [ha.get q u hu]; exact h)
end
section
variable {P : Program} {σ : Store} {H : Array Obj} {d : Option Tmp} {t : TypeId} {pos : String} {af : Array Edge} {gd : Option (Nat × Bool)}
theorem ev_makeFunc {g : FuncId} {xs : List Operand} {vs : List Value} (hx : looks σ xs = some vs) : Ev P σ H ⟨d, .makeFunc (.func g) #[] xs.toArray, t, pos, af, gd⟩ (.func (.func g) #[] vs.toArray) := by
  unfold Ev
  intro ρ w hρ _
  have e := hρ.list xs vs hx
  simp [execOp, Instr.makeFunc, e]
end
section
variable {P : Program} {N : Fm} {Q : Exit → Act → World → Prop} {σ : Store} {w : World} {ops : Array Oper} {d : Nat} {t : TypeId} {pos : String} {af : Array Edge} {rest : List Oper}
theorem exec_callV {ρ : Operand → Value} {f : FuncId} {x : Operand} {xs : List Operand} {tys : Array TypeId} {vs cap : List Value} {dd : Option Tmp} {gd : Option (Nat × Bool)} (hρ : Agree σ ρ) (hf : look σ x = some (.func (.func f) #[] cap.toArray)) (hx : looks σ xs = some vs) (hfn : IsFn P f) (w : World) :
    (execOp ρ ⟨dd, .call { callee := .value x, args := xs.toArray, argTypes := tys }, t, pos, af, gd⟩).run P w = .ok (.enter f (vs ++ cap).toArray) w := by
  have e := hρ.list xs vs hx
  have ef := hρ x _ hf
  simp [execOp, resolve, ef, Deferred.ofValue, invoke, e, run_callFunc_enter hfn]
/-- a call of a function value -/
theorem TL.callV {f : FuncId} {x : Operand} {xs : List Operand} {tys : Array TypeId} {vs cap : List Value} (hfn : IsFn P f) (hf : look σ x = some (.func (.func f) #[] cap.toArray)) (hx : looks σ xs = some vs) (hd : Nat.blt d N.n = true)
    (k : Cl P f (vs ++ cap).toArray w (Back P N ops Q rest d σ)) :
    TL P N .seq ops Q (⟨some d, .call { callee := .value x, args := xs.toArray, argTypes := tys }, t, pos, af, none⟩ :: rest) σ w := by
  unfold TL
  intro a ha
  refine wpList_plain rfl fun K hK => ?_
  unfold Oper.wp
  rw [exec_callV ha.agree hf hx hfn]
  refine Calls.mono k.out ?_
  intro e w' hb
  unfold Back at hb
  obtain ⟨v, rfl, hk⟩ := hb
  unfold TL at hk
  exact hK _ _ (hk _ (ha.put hd v))
end
end Go.Eng

namespace Go.Eng
open Go Go.RowKit

section
variable {P : Program} {N : Fm} {Q : Exit → Act → World → Prop} {σ : Store} {w : World} {ops : Array Oper} {d : Nat} {t : TypeId} {pos : String} {af : Array Edge} {rest : List Oper} {l : List Oper}
theorem T.regionX (id : Nat) (f : Nat) (t : Rt) (hm : P.follows .mixedOrders = true) (hB : treeB l.toArray f t = true) (h : ∀ w1 : World, w1.heap.size = w.heap.size → Ext w w1 → TF P N l Q (fun w' => Ext w w') f t σ w1) : T P N (.region id l.toArray true) Q σ w :=
  T.regionE id f t hm hB (h (w.drewN 1) (by simp) (ext_drewN w 1))
theorem Pure.clX {f : FuncId} {args : Array Value} {v : Value} (h : Pure P f args w.heap v) : Cl P f args w fun e w' => e = .returned v ∧ w'.heap.size = w.heap.size ∧ Ext w w' := h.cl.mono fun e w' ⟨he, n, hw⟩ => ⟨he, by rw [hw]; simp, by rw [hw]; exact ext_drewN w n⟩
theorem box_lo {w0 w1 : World} {b : Nat} (hE : Ext w0 w1) (e : b = w1.heap.size) : w0.heap.size ≤ b := by have := hE.size; omega
theorem Vr.updX {w w' : World} {b g : Nat} {t : TypeId} {cs : List Value} (hu : Upd g w w') (h : Vr w.heap b t cs) (hne : b ≠ g) : Vr w'.heap b t cs := h.upd hu hne
theorem ext_upd {w0 w1 w2 : World} {b : Nat} (hu : Upd b w1 w2) (hE : Ext w0 w1) (hb : w0.heap.size ≤ b) : Ext w0 w2 := Ext.upd hE hu hb
theorem TL.storeVX {x y : Operand} {ty e : TypeId} {z : Value} {sz b1 : Nat} [hS : USize P ty z sz b1] {b o : Nat} {cs r vs : List Value} (hx : look σ x = some (.pointer (some ⟨b, o, none⟩))) (hy : look σ y = some (.agg vs.toArray))
    (hsz : Nat.beq vs.length sz = true) (h1 : vs.all (·.oneCell') = true) (h : Vr w.heap b e cs ∧ putO cs o vs = some r)
    (K : ∀ w', Vr w'.heap b e r → Upd b w w' → w'.heap.size = w.heap.size → TL P N .seq ops Q rest σ w') : TL P N .seq ops Q (⟨none, .store ty x y, t, pos, af, none⟩ :: rest) σ w :=
  TL.storeVA hx hy hsz h1 h.1 h.2 fun w' h1 h2 => K w' h1 h2 h2.size
theorem TL.storeX {x y : Operand} {ty e : TypeId} {z : Value} {b1 : Nat} [hS : USize P ty z 1 b1] {b o : Nat} {cs r : List Value} {v : Value} (hx : look σ x = some (.pointer (some ⟨b, o, none⟩))) (hy : look σ y = some v) (hvs : v.cells.toList = [v]) (h1 : v.oneCell' = true) (h : Vr w.heap b e cs ∧ putO cs o [v] = some r)
    (K : ∀ w', Vr w'.heap b e r → Upd b w w' → w'.heap.size = w.heap.size → TL P N .seq ops Q rest σ w') : TL P N .seq ops Q (⟨none, .store ty x y, t, pos, af, none⟩ :: rest) σ w :=
  TL.storeV hx hy hvs h1 h.1 h.2 fun w' h1 h2 => K w' h1 h2 h2.size
end
section
variable {P : Program} {σ : Store} {H : Array Obj} {d : Option Tmp} {t : TypeId} {pos : String} {af : Array Edge} {gd : Option (Nat × Bool)}
theorem ev_loadVX {x : Operand} {ty e : TypeId} [hO : UOne P ty] {b o : Nat} {cs : List Value} {v : Value} (hx : look σ x = some (.pointer (some ⟨b, o, none⟩))) (h : Vr H b e cs ∧ nthV cs o = some v) : Ev P σ H ⟨d, .load ty x, t, pos, af, gd⟩ v := ev_loadV hx h.1 h.2
theorem ev_loadVAX {x : Operand} {ty e : TypeId} [hA : UAgg P ty] {z : Value} {sz b1 : Nat} [hS : USize P ty z sz b1] {b o : Nat} {cs cs' : List Value} (hx : look σ x = some (.pointer (some ⟨b, o, none⟩))) (h : Vr H b e cs ∧ subV cs o sz = some cs') :
    Ev P σ H ⟨d, .load ty x, t, pos, af, gd⟩ (.agg cs'.toArray) := ev_loadVA hx h.1 h.2
end

theorem putV_of_O : ∀ (cs : List Value) (off : Nat) (vs r : List Value), putO cs off vs = some r → putV cs off vs = r
  | cs, off, [], r, h => by simp [putO] at h; rw [putV_nil, h]
  | [], off, v :: vs, r, h => by simp [putO] at h
  | c :: cs, 0, v :: vs, r, h => by
    simp only [putO] at h
    cases hq : putO cs 0 vs with
    | none => rw [hq] at h; simp at h
    | some l => rw [hq] at h; simp at h; subst h; simp [putV, putV_of_O cs 0 vs l hq]
  | c :: cs, off + 1, v :: vs, r, h => by
    simp only [putO] at h
    cases hq : putO cs off (v :: vs) with
    | none => rw [hq] at h; simp at h
    | some l => rw [hq] at h; simp at h; subst h; simp [putV, putV_of_O cs off (v :: vs) l hq]
def nthP : List (Nat × Nat) → Nat → Option (Nat × Nat)
  | [], _ => none
  | p :: _, 0 => some p
  | _ :: l, i + 1 => nthP l i
theorem nthP_eq (l : List (Nat × Nat)) (i : Nat) : nthP l i = l[i]? := by
  induction l generalizing i with
  | nil => rfl
  | cons v l ih => cases i <;> simp [nthP, ih]
def fillO (pl : List (Nat × Nat)) : List Value → List (Nat × Value) → Option (List Value)
  | cs, [] => some cs
  | cs, (i, v) :: rest => match nthP pl i with
    | none => none
    | some (off, size) => match Nat.beq v.cells.toList.length size && Nat.ble (off + size) cs.length with
      | true => match putO cs off v.cells.toList with
        | some cs' => fillO pl cs' rest
        | none => none
      | false => none
theorem fillO_eq {pl : List (Nat × Nat)} : ∀ (parts : List (Nat × Value)) (cs r : List Value), fillO pl cs parts = some r → fillV pl cs parts = some r
  | [], cs, r, h => by simpa [fillO, fillV] using h
  | (i, v) :: rest, cs, r, h => by
    simp only [fillO, nthP_eq] at h
    cases hp : pl[i]? with
    | none => rw [hp] at h; simp at h
    | some os =>
      obtain ⟨off, size⟩ := os
      rw [hp] at h
      simp only at h
      cases hb : (Nat.beq v.cells.toList.length size && Nat.ble (off + size) cs.length) with
      | false => rw [hb] at h; simp at h
      | true =>
        rw [hb] at h
        simp only at h
        cases hq : putO cs off v.cells.toList with
        | none => rw [hq] at h; simp at h
        | some cs' =>
          rw [hq] at h
          simp only at h
          simp only [fillV, hp]
          rw [hb, putV_of_O _ _ _ _ hq]
          simpa using fillO_eq rest cs' r h
section
variable {P : Program} {σ : Store} {H : Array Obj} {d : Option Tmp} {t : TypeId} {pos : String} {af : Array Edge} {gd : Option (Nat × Bool)}
theorem ev_buildX {ty : TypeId} {pl : List (Nat × Nat)} [hU : UStruct P ty pl] {z : List Value} {sz b1 : Nat} [hS : USize P ty (.agg z.toArray) sz b1] {parts : List (Nat × Operand)} {vs : List (Nat × Value)} {r : List Value}
    (hp : looksP σ parts = some vs) (hr : fillO pl z vs = some r) : Ev P σ H ⟨d, .build ty parts.toArray, t, pos, af, gd⟩ (.agg r.toArray) := ev_build hp (fillO_eq _ _ _ hr)
end

theorem Sm.upd {α : Type} {k : Nat} {f : α → List Value} {w w' : World} {B n c b : Nat} {A : Option Addr} {l : List α} (hu : Upd b w w') (h : Sm k f w.heap B A n c l) (hb : B ≤ b) : Sm k f w'.heap B A n c l := h.below (hu.below hb)
/-- no word among the cells -/
def noU64 : Value → Bool
  | .int .u64 _ => false
  | _ => true
theorem off_var {α : Type} {f : α → Value} (hf : ∀ x, noU64 (f x) = false) {H : Array Obj} {B n c b : Nat} {A : Option Addr} {l : List α} {t : TypeId} {cs : List Value} (h : Sl f H B A n c l) (hV : Vr H b t cs) (hc : cs.all noU64 = true) : n = 0 ∨ ∀ a, A = some a → a.block ≠ b := by
  rcases h.mem with h0 | ⟨b', o, rfl, _, hm⟩
  · exact .inl h0
  · rcases Nat.eq_zero_or_pos n with h0 | h0
    · exact .inl h0
    · refine .inr fun a ha hab => ?_
      cases ha
      simp only at hab
      subst hab
      have hl : 0 < l.length := by have := h.len; omega
      have h1 := hm 0 l[0] (List.getElem?_eq_getElem hl)
      rw [hV.cell] at h1
      have h2 := List.all_eq_true.1 hc _ (List.mem_of_getElem? h1)
      rw [hf] at h2
      cases h2
theorem sl_updV {w w' : World} {B n c b : Nat} {A : Option Addr} {l : List Nat} {t : TypeId} {cs : List Value} (hu : Upd b w w') (hV : Vr w.heap b t cs) (hc : cs.all noU64 = true) (h : Sl u64v w.heap B A n c l) : Sl u64v w'.heap B A n c l := by
  have ho := off_var (fun x => rfl) h hV hc
  refine ⟨h.len, h.cap, ?_⟩
  rcases h.mem with h0 | ⟨b', o, e, hlt, hm⟩
  · exact .inl h0
  · rcases ho with h0 | ho
    · exact .inl h0
    · refine .inr ⟨b', o, e, hlt, fun j x hx => ?_⟩
      have hne : b' ≠ b := ho _ e
      have := hm j x hx
      unfold hcell at this ⊢
      rw [hu.block b' hne]
      exact this
/-- an integer in memory: its sign's flag and its words -/
structure IV where
  neg : Bool
  m : SA Nat
instance : Inhabited IV := ⟨⟨false, default⟩⟩
def ivc (x : IV) : List Value := [.bool x.neg, .slice x.m.A x.m.n x.m.c]
/-- a matrix in memory -/
structure MV where
  r : Int
  c : Int
  A : Option Addr
  n : Nat
  k : Nat
  l : List IV
instance : Inhabited MV := ⟨⟨0, 0, none, 0, 0, []⟩⟩
def mvc (x : MV) : List Value := [.int .i64 x.r, .int .i64 x.c, .slice x.A x.n x.k]
end Go.Eng

namespace Go.Proofs.YthlbihbchobllaaGreat
open Go Go.Eng Go.Proofs
instance : USize Tryz.prog 1 (.nilFunc) 1 8 := ⟨by kernel_rfl⟩
instance : UOne Tryz.prog 1 := ⟨⟨_, Tryz.underlying1, rfl⟩⟩
instance : USize Tryz.prog 2 (.int .i64 0) 1 8 := ⟨by kernel_rfl⟩
instance : UInt Tryz.prog 2 .i64 := ⟨Tryz.underlying2⟩
instance : UOne Tryz.prog 2 := ⟨⟨_, Tryz.underlying2, rfl⟩⟩
instance : USize Tryz.prog 3 (.int .i64 0) 1 8 := ⟨by kernel_rfl⟩
instance : UInt Tryz.prog 3 .i64 := ⟨Tryz.underlying3⟩
instance : UOne Tryz.prog 3 := ⟨⟨_, Tryz.underlying3, rfl⟩⟩
instance : USize Tryz.prog 4 (.bool false) 1 1 := ⟨by kernel_rfl⟩
instance : UBool Tryz.prog 4 := ⟨Tryz.underlying4⟩
instance : UOne Tryz.prog 4 := ⟨⟨_, Tryz.underlying4, rfl⟩⟩
instance : USize Tryz.prog 5 (.int .u8 0) 1 1 := ⟨by kernel_rfl⟩
instance : UInt Tryz.prog 5 .u8 := ⟨Tryz.underlying5⟩
instance : UOne Tryz.prog 5 := ⟨⟨_, Tryz.underlying5, rfl⟩⟩
instance : USize Tryz.prog 6 (.int .u8 0) 1 1 := ⟨by kernel_rfl⟩
instance : UInt Tryz.prog 6 .u8 := ⟨Tryz.underlying6⟩
instance : UOne Tryz.prog 6 := ⟨⟨_, Tryz.underlying6, rfl⟩⟩
instance : USize Tryz.prog 7 (.agg #[.int .i64 0, .int .i64 0, .bool false, .int .u8 0]) 4 24 := ⟨by kernel_rfl⟩
instance : UAgg Tryz.prog 7 := ⟨⟨_, Tryz.underlying7⟩⟩
instance : UField Tryz.prog 7 0 2 0 := ⟨⟨_, _, Tryz.underlying7, rfl, rfl, rfl, by kernel_rfl⟩⟩
instance : UField Tryz.prog 7 1 3 1 := ⟨⟨_, _, Tryz.underlying7, rfl, rfl, rfl, by kernel_rfl⟩⟩
instance : UField Tryz.prog 7 2 4 2 := ⟨⟨_, _, Tryz.underlying7, rfl, rfl, rfl, by kernel_rfl⟩⟩
instance : UField Tryz.prog 7 3 6 3 := ⟨⟨_, _, Tryz.underlying7, rfl, rfl, rfl, by kernel_rfl⟩⟩
instance : USize Tryz.prog 8 (.agg #[.int .i64 0, .int .i64 0, .bool false, .int .u8 0]) 4 24 := ⟨by kernel_rfl⟩
instance : UAgg Tryz.prog 8 := ⟨⟨_, Tryz.underlying8⟩⟩
instance : UField Tryz.prog 8 0 2 0 := ⟨⟨_, _, Tryz.underlying8, rfl, rfl, rfl, by kernel_rfl⟩⟩
instance : UField Tryz.prog 8 1 3 1 := ⟨⟨_, _, Tryz.underlying8, rfl, rfl, rfl, by kernel_rfl⟩⟩
instance : UField Tryz.prog 8 2 4 2 := ⟨⟨_, _, Tryz.underlying8, rfl, rfl, rfl, by kernel_rfl⟩⟩
instance : UField Tryz.prog 8 3 6 3 := ⟨⟨_, _, Tryz.underlying8, rfl, rfl, rfl, by kernel_rfl⟩⟩
instance : USize Tryz.prog 9 (.string ⟨#[]⟩) 1 16 := ⟨by kernel_rfl⟩
instance : UOne Tryz.prog 9 := ⟨⟨_, Tryz.underlying9, rfl⟩⟩
instance : USize Tryz.prog 10 (.string ⟨#[]⟩) 1 16 := ⟨by kernel_rfl⟩
instance : UOne Tryz.prog 10 := ⟨⟨_, Tryz.underlying10, rfl⟩⟩
instance : USize Tryz.prog 11 (.string ⟨#[]⟩) 1 16 := ⟨by kernel_rfl⟩
instance : UOne Tryz.prog 11 := ⟨⟨_, Tryz.underlying11, rfl⟩⟩
instance : USize Tryz.prog 12 (.int .u64 0) 1 8 := ⟨by kernel_rfl⟩
instance : UInt Tryz.prog 12 .u64 := ⟨Tryz.underlying12⟩
instance : UOne Tryz.prog 12 := ⟨⟨_, Tryz.underlying12, rfl⟩⟩
instance : USize Tryz.prog 13 (.agg #[.string ⟨#[]⟩, .int .u64 0]) 2 24 := ⟨by kernel_rfl⟩
instance : UAgg Tryz.prog 13 := ⟨⟨_, Tryz.underlying13⟩⟩
instance : UField Tryz.prog 13 0 9 0 := ⟨⟨_, _, Tryz.underlying13, rfl, rfl, rfl, by kernel_rfl⟩⟩
instance : UField Tryz.prog 13 1 12 1 := ⟨⟨_, _, Tryz.underlying13, rfl, rfl, rfl, by kernel_rfl⟩⟩
instance : USize Tryz.prog 14 (.agg #[.string ⟨#[]⟩, .int .u64 0]) 2 24 := ⟨by kernel_rfl⟩
instance : UAgg Tryz.prog 14 := ⟨⟨_, Tryz.underlying14⟩⟩
instance : UField Tryz.prog 14 0 9 0 := ⟨⟨_, _, Tryz.underlying14, rfl, rfl, rfl, by kernel_rfl⟩⟩
instance : UField Tryz.prog 14 1 12 1 := ⟨⟨_, _, Tryz.underlying14, rfl, rfl, rfl, by kernel_rfl⟩⟩
instance : USize Tryz.prog 15 (.pointer none) 1 8 := ⟨by kernel_rfl⟩
instance : UOne Tryz.prog 15 := ⟨⟨_, Tryz.underlying15, rfl⟩⟩
instance : USize Tryz.prog 16 (.pointer none) 1 8 := ⟨by kernel_rfl⟩
instance : UOne Tryz.prog 16 := ⟨⟨_, Tryz.underlying16, rfl⟩⟩
instance : USize Tryz.prog 17 (.pointer none) 1 8 := ⟨by kernel_rfl⟩
instance : UOne Tryz.prog 17 := ⟨⟨_, Tryz.underlying17, rfl⟩⟩
instance : USize Tryz.prog 18 (.agg #[.pointer none]) 1 8 := ⟨by kernel_rfl⟩
instance : UAgg Tryz.prog 18 := ⟨⟨_, Tryz.underlying18⟩⟩
instance : UField Tryz.prog 18 0 17 0 := ⟨⟨_, _, Tryz.underlying18, rfl, rfl, rfl, by kernel_rfl⟩⟩
instance : USize Tryz.prog 19 (.agg #[.pointer none]) 1 8 := ⟨by kernel_rfl⟩
instance : UAgg Tryz.prog 19 := ⟨⟨_, Tryz.underlying19⟩⟩
instance : UField Tryz.prog 19 0 17 0 := ⟨⟨_, _, Tryz.underlying19, rfl, rfl, rfl, by kernel_rfl⟩⟩
instance : USize Tryz.prog 20 (.nilIface) 1 16 := ⟨by kernel_rfl⟩
instance : UOne Tryz.prog 20 := ⟨⟨_, Tryz.underlying20, rfl⟩⟩
instance : USize Tryz.prog 21 (.int .i32 0) 1 4 := ⟨by kernel_rfl⟩
instance : UInt Tryz.prog 21 .i32 := ⟨Tryz.underlying21⟩
instance : UOne Tryz.prog 21 := ⟨⟨_, Tryz.underlying21, rfl⟩⟩
instance : USize Tryz.prog 22 (.slice none 0 0) 1 24 := ⟨by kernel_rfl⟩
instance : USlice Tryz.prog 22 43 := ⟨Tryz.underlying22⟩
instance : UOne Tryz.prog 22 := ⟨⟨_, Tryz.underlying22, rfl⟩⟩
instance : USize Tryz.prog 23 (.agg #[.int .i64 0, .int .i64 0, .slice none 0 0]) 3 40 := ⟨by kernel_rfl⟩
instance : UAgg Tryz.prog 23 := ⟨⟨_, Tryz.underlying23⟩⟩
instance : UField Tryz.prog 23 0 3 0 := ⟨⟨_, _, Tryz.underlying23, rfl, rfl, rfl, by kernel_rfl⟩⟩
instance : UField Tryz.prog 23 1 3 1 := ⟨⟨_, _, Tryz.underlying23, rfl, rfl, rfl, by kernel_rfl⟩⟩
instance : UField Tryz.prog 23 2 22 2 := ⟨⟨_, _, Tryz.underlying23, rfl, rfl, rfl, by kernel_rfl⟩⟩
instance : USize Tryz.prog 24 (.agg #[.int .i64 0, .int .i64 0, .slice none 0 0]) 3 40 := ⟨by kernel_rfl⟩
instance : UAgg Tryz.prog 24 := ⟨⟨_, Tryz.underlying24⟩⟩
instance : UField Tryz.prog 24 0 3 0 := ⟨⟨_, _, Tryz.underlying24, rfl, rfl, rfl, by kernel_rfl⟩⟩
instance : UField Tryz.prog 24 1 3 1 := ⟨⟨_, _, Tryz.underlying24, rfl, rfl, rfl, by kernel_rfl⟩⟩
instance : UField Tryz.prog 24 2 22 2 := ⟨⟨_, _, Tryz.underlying24, rfl, rfl, rfl, by kernel_rfl⟩⟩
instance : USize Tryz.prog 25 (.nilFunc) 1 8 := ⟨by kernel_rfl⟩
instance : UOne Tryz.prog 25 := ⟨⟨_, Tryz.underlying25, rfl⟩⟩
instance : USize Tryz.prog 26 (.agg #[.int .i64 0, .int .i64 0, .slice none 0 0, .int .i64 0, .int .i64 0, .slice none 0 0, .int .i64 0, .int .i64 0, .slice none 0 0]) 9 120 := ⟨by kernel_rfl⟩
instance : UAgg Tryz.prog 26 := ⟨⟨_, Tryz.underlying26⟩⟩
instance : UField Tryz.prog 26 0 24 0 := ⟨⟨_, _, Tryz.underlying26, rfl, rfl, rfl, by kernel_rfl⟩⟩
instance : UField Tryz.prog 26 1 24 3 := ⟨⟨_, _, Tryz.underlying26, rfl, rfl, rfl, by kernel_rfl⟩⟩
instance : UField Tryz.prog 26 2 24 6 := ⟨⟨_, _, Tryz.underlying26, rfl, rfl, rfl, by kernel_rfl⟩⟩
instance : USize Tryz.prog 27 (.agg #[.int .i64 0, .int .i64 0, .slice none 0 0, .int .i64 0, .int .i64 0, .slice none 0 0, .int .i64 0, .int .i64 0, .slice none 0 0]) 9 120 := ⟨by kernel_rfl⟩
instance : UAgg Tryz.prog 27 := ⟨⟨_, Tryz.underlying27⟩⟩
instance : UField Tryz.prog 27 0 24 0 := ⟨⟨_, _, Tryz.underlying27, rfl, rfl, rfl, by kernel_rfl⟩⟩
instance : UField Tryz.prog 27 1 24 3 := ⟨⟨_, _, Tryz.underlying27, rfl, rfl, rfl, by kernel_rfl⟩⟩
instance : UField Tryz.prog 27 2 24 6 := ⟨⟨_, _, Tryz.underlying27, rfl, rfl, rfl, by kernel_rfl⟩⟩
instance : USize Tryz.prog 28 (.int .i64 0) 1 8 := ⟨by kernel_rfl⟩
instance : UInt Tryz.prog 28 .i64 := ⟨Tryz.underlying28⟩
instance : UOne Tryz.prog 28 := ⟨⟨_, Tryz.underlying28, rfl⟩⟩
instance : USize Tryz.prog 30 (.nilFunc) 1 8 := ⟨by kernel_rfl⟩
instance : UOne Tryz.prog 30 := ⟨⟨_, Tryz.underlying30, rfl⟩⟩
instance : USize Tryz.prog 31 (.nilFunc) 1 8 := ⟨by kernel_rfl⟩
instance : UOne Tryz.prog 31 := ⟨⟨_, Tryz.underlying31, rfl⟩⟩
instance : USize Tryz.prog 32 (.nilFunc) 1 8 := ⟨by kernel_rfl⟩
instance : UOne Tryz.prog 32 := ⟨⟨_, Tryz.underlying32, rfl⟩⟩
instance : USize Tryz.prog 34 (.nilFunc) 1 8 := ⟨by kernel_rfl⟩
instance : UOne Tryz.prog 34 := ⟨⟨_, Tryz.underlying34, rfl⟩⟩
instance : USize Tryz.prog 36 (.nilFunc) 1 8 := ⟨by kernel_rfl⟩
instance : UOne Tryz.prog 36 := ⟨⟨_, Tryz.underlying36, rfl⟩⟩
instance : USize Tryz.prog 37 (.nilFunc) 1 8 := ⟨by kernel_rfl⟩
instance : UOne Tryz.prog 37 := ⟨⟨_, Tryz.underlying37, rfl⟩⟩
instance : USize Tryz.prog 38 (.nilFunc) 1 8 := ⟨by kernel_rfl⟩
instance : UOne Tryz.prog 38 := ⟨⟨_, Tryz.underlying38, rfl⟩⟩
instance : USize Tryz.prog 39 (.nilFunc) 1 8 := ⟨by kernel_rfl⟩
instance : UOne Tryz.prog 39 := ⟨⟨_, Tryz.underlying39, rfl⟩⟩
instance : USize Tryz.prog 40 (.nilFunc) 1 8 := ⟨by kernel_rfl⟩
instance : UOne Tryz.prog 40 := ⟨⟨_, Tryz.underlying40, rfl⟩⟩
instance : USize Tryz.prog 41 (.slice none 0 0) 1 24 := ⟨by kernel_rfl⟩
instance : USlice Tryz.prog 41 45 := ⟨Tryz.underlying41⟩
instance : UOne Tryz.prog 41 := ⟨⟨_, Tryz.underlying41, rfl⟩⟩
instance : USize Tryz.prog 42 (.agg #[.bool false, .slice none 0 0]) 2 32 := ⟨by kernel_rfl⟩
instance : UAgg Tryz.prog 42 := ⟨⟨_, Tryz.underlying42⟩⟩
instance : UField Tryz.prog 42 0 4 0 := ⟨⟨_, _, Tryz.underlying42, rfl, rfl, rfl, by kernel_rfl⟩⟩
instance : UField Tryz.prog 42 1 41 1 := ⟨⟨_, _, Tryz.underlying42, rfl, rfl, rfl, by kernel_rfl⟩⟩
instance : USize Tryz.prog 43 (.agg #[.bool false, .slice none 0 0]) 2 32 := ⟨by kernel_rfl⟩
instance : UAgg Tryz.prog 43 := ⟨⟨_, Tryz.underlying43⟩⟩
instance : UField Tryz.prog 43 0 4 0 := ⟨⟨_, _, Tryz.underlying43, rfl, rfl, rfl, by kernel_rfl⟩⟩
instance : UField Tryz.prog 43 1 41 1 := ⟨⟨_, _, Tryz.underlying43, rfl, rfl, rfl, by kernel_rfl⟩⟩
instance : USize Tryz.prog 44 (.nilFunc) 1 8 := ⟨by kernel_rfl⟩
instance : UOne Tryz.prog 44 := ⟨⟨_, Tryz.underlying44, rfl⟩⟩
instance : USize Tryz.prog 45 (.int .u64 0) 1 8 := ⟨by kernel_rfl⟩
instance : UInt Tryz.prog 45 .u64 := ⟨Tryz.underlying45⟩
instance : UOne Tryz.prog 45 := ⟨⟨_, Tryz.underlying45, rfl⟩⟩
instance : USize Tryz.prog 46 (.nilFunc) 1 8 := ⟨by kernel_rfl⟩
instance : UOne Tryz.prog 46 := ⟨⟨_, Tryz.underlying46, rfl⟩⟩
instance : USize Tryz.prog 47 (.nilFunc) 1 8 := ⟨by kernel_rfl⟩
instance : UOne Tryz.prog 47 := ⟨⟨_, Tryz.underlying47, rfl⟩⟩
instance : USize Tryz.prog 48 (.slice none 0 0) 1 24 := ⟨by kernel_rfl⟩
instance : USlice Tryz.prog 48 22 := ⟨Tryz.underlying48⟩
instance : UOne Tryz.prog 48 := ⟨⟨_, Tryz.underlying48, rfl⟩⟩
instance : USize Tryz.prog 49 (.nilFunc) 1 8 := ⟨by kernel_rfl⟩
instance : UOne Tryz.prog 49 := ⟨⟨_, Tryz.underlying49, rfl⟩⟩
instance : USize Tryz.prog 50 (.pointer none) 1 8 := ⟨by kernel_rfl⟩
instance : UOne Tryz.prog 50 := ⟨⟨_, Tryz.underlying50, rfl⟩⟩
instance : USize Tryz.prog 51 (.nilFunc) 1 8 := ⟨by kernel_rfl⟩
instance : UOne Tryz.prog 51 := ⟨⟨_, Tryz.underlying51, rfl⟩⟩
instance : USize Tryz.prog 52 (.slice none 0 0) 1 24 := ⟨by kernel_rfl⟩
instance : USlice Tryz.prog 52 60 := ⟨Tryz.underlying52⟩
instance : UOne Tryz.prog 52 := ⟨⟨_, Tryz.underlying52, rfl⟩⟩
instance : USize Tryz.prog 53 (.agg #[.slice none 0 0, .slice none 0 0]) 2 48 := ⟨by kernel_rfl⟩
instance : UAgg Tryz.prog 53 := ⟨⟨_, Tryz.underlying53⟩⟩
instance : UField Tryz.prog 53 0 48 0 := ⟨⟨_, _, Tryz.underlying53, rfl, rfl, rfl, by kernel_rfl⟩⟩
instance : UField Tryz.prog 53 1 52 1 := ⟨⟨_, _, Tryz.underlying53, rfl, rfl, rfl, by kernel_rfl⟩⟩
instance : USize Tryz.prog 54 (.agg #[.slice none 0 0, .slice none 0 0]) 2 48 := ⟨by kernel_rfl⟩
instance : UAgg Tryz.prog 54 := ⟨⟨_, Tryz.underlying54⟩⟩
instance : UField Tryz.prog 54 0 48 0 := ⟨⟨_, _, Tryz.underlying54, rfl, rfl, rfl, by kernel_rfl⟩⟩
instance : UField Tryz.prog 54 1 52 1 := ⟨⟨_, _, Tryz.underlying54, rfl, rfl, rfl, by kernel_rfl⟩⟩
instance : USize Tryz.prog 55 (.nilFunc) 1 8 := ⟨by kernel_rfl⟩
instance : UOne Tryz.prog 55 := ⟨⟨_, Tryz.underlying55, rfl⟩⟩
instance : USize Tryz.prog 56 (.nilFunc) 1 8 := ⟨by kernel_rfl⟩
instance : UOne Tryz.prog 56 := ⟨⟨_, Tryz.underlying56, rfl⟩⟩
instance : USize Tryz.prog 57 (.nilFunc) 1 8 := ⟨by kernel_rfl⟩
instance : UOne Tryz.prog 57 := ⟨⟨_, Tryz.underlying57, rfl⟩⟩
instance : USize Tryz.prog 58 (.nilFunc) 1 8 := ⟨by kernel_rfl⟩
instance : UOne Tryz.prog 58 := ⟨⟨_, Tryz.underlying58, rfl⟩⟩
instance : USize Tryz.prog 59 (.agg #[.nilFunc, .nilFunc, .nilFunc, .nilFunc]) 4 32 := ⟨by kernel_rfl⟩
instance : UAgg Tryz.prog 59 := ⟨⟨_, Tryz.underlying59⟩⟩
instance : UField Tryz.prog 59 0 55 0 := ⟨⟨_, _, Tryz.underlying59, rfl, rfl, rfl, by kernel_rfl⟩⟩
instance : UField Tryz.prog 59 1 56 1 := ⟨⟨_, _, Tryz.underlying59, rfl, rfl, rfl, by kernel_rfl⟩⟩
instance : UField Tryz.prog 59 2 57 2 := ⟨⟨_, _, Tryz.underlying59, rfl, rfl, rfl, by kernel_rfl⟩⟩
instance : UField Tryz.prog 59 3 58 3 := ⟨⟨_, _, Tryz.underlying59, rfl, rfl, rfl, by kernel_rfl⟩⟩
instance : USize Tryz.prog 60 (.agg #[.nilFunc, .nilFunc, .nilFunc, .nilFunc]) 4 32 := ⟨by kernel_rfl⟩
instance : UAgg Tryz.prog 60 := ⟨⟨_, Tryz.underlying60⟩⟩
instance : UField Tryz.prog 60 0 55 0 := ⟨⟨_, _, Tryz.underlying60, rfl, rfl, rfl, by kernel_rfl⟩⟩
instance : UField Tryz.prog 60 1 56 1 := ⟨⟨_, _, Tryz.underlying60, rfl, rfl, rfl, by kernel_rfl⟩⟩
instance : UField Tryz.prog 60 2 57 2 := ⟨⟨_, _, Tryz.underlying60, rfl, rfl, rfl, by kernel_rfl⟩⟩
instance : UField Tryz.prog 60 3 58 3 := ⟨⟨_, _, Tryz.underlying60, rfl, rfl, rfl, by kernel_rfl⟩⟩
instance : USize Tryz.prog 61 (.nilFunc) 1 8 := ⟨by kernel_rfl⟩
instance : UOne Tryz.prog 61 := ⟨⟨_, Tryz.underlying61, rfl⟩⟩
instance : USize Tryz.prog 62 (.nilFunc) 1 8 := ⟨by kernel_rfl⟩
instance : UOne Tryz.prog 62 := ⟨⟨_, Tryz.underlying62, rfl⟩⟩
instance : USize Tryz.prog 63 (.nilFunc) 1 8 := ⟨by kernel_rfl⟩
instance : UOne Tryz.prog 63 := ⟨⟨_, Tryz.underlying63, rfl⟩⟩
instance : USize Tryz.prog 64 (.nilFunc) 1 8 := ⟨by kernel_rfl⟩
instance : UOne Tryz.prog 64 := ⟨⟨_, Tryz.underlying64, rfl⟩⟩
instance : USize Tryz.prog 65 (.nilFunc) 1 8 := ⟨by kernel_rfl⟩
instance : UOne Tryz.prog 65 := ⟨⟨_, Tryz.underlying65, rfl⟩⟩
instance : USize Tryz.prog 66 (.nilFunc) 1 8 := ⟨by kernel_rfl⟩
instance : UOne Tryz.prog 66 := ⟨⟨_, Tryz.underlying66, rfl⟩⟩
instance : USize Tryz.prog 67 (.nilFunc) 1 8 := ⟨by kernel_rfl⟩
instance : UOne Tryz.prog 67 := ⟨⟨_, Tryz.underlying67, rfl⟩⟩
instance : USize Tryz.prog 68 (.nilFunc) 1 8 := ⟨by kernel_rfl⟩
instance : UOne Tryz.prog 68 := ⟨⟨_, Tryz.underlying68, rfl⟩⟩
instance : USize Tryz.prog 69 (.nilFunc) 1 8 := ⟨by kernel_rfl⟩
instance : UOne Tryz.prog 69 := ⟨⟨_, Tryz.underlying69, rfl⟩⟩
instance : USize Tryz.prog 70 (.nilFunc) 1 8 := ⟨by kernel_rfl⟩
instance : UOne Tryz.prog 70 := ⟨⟨_, Tryz.underlying70, rfl⟩⟩
instance : USize Tryz.prog 71 (.nilFunc) 1 8 := ⟨by kernel_rfl⟩
instance : UOne Tryz.prog 71 := ⟨⟨_, Tryz.underlying71, rfl⟩⟩
instance : USize Tryz.prog 73 (.nilFunc) 1 8 := ⟨by kernel_rfl⟩
instance : UOne Tryz.prog 73 := ⟨⟨_, Tryz.underlying73, rfl⟩⟩
instance : USize Tryz.prog 74 (.nilFunc) 1 8 := ⟨by kernel_rfl⟩
instance : UOne Tryz.prog 74 := ⟨⟨_, Tryz.underlying74, rfl⟩⟩
instance : USize Tryz.prog 75 (.nilFunc) 1 8 := ⟨by kernel_rfl⟩
instance : UOne Tryz.prog 75 := ⟨⟨_, Tryz.underlying75, rfl⟩⟩
instance : USize Tryz.prog 76 (.nilFunc) 1 8 := ⟨by kernel_rfl⟩
instance : UOne Tryz.prog 76 := ⟨⟨_, Tryz.underlying76, rfl⟩⟩
instance : USize Tryz.prog 77 (.nilFunc) 1 8 := ⟨by kernel_rfl⟩
instance : UOne Tryz.prog 77 := ⟨⟨_, Tryz.underlying77, rfl⟩⟩
instance : USize Tryz.prog 78 (.nilFunc) 1 8 := ⟨by kernel_rfl⟩
instance : UOne Tryz.prog 78 := ⟨⟨_, Tryz.underlying78, rfl⟩⟩
instance : USize Tryz.prog 79 (.nilFunc) 1 8 := ⟨by kernel_rfl⟩
instance : UOne Tryz.prog 79 := ⟨⟨_, Tryz.underlying79, rfl⟩⟩
instance : USize Tryz.prog 80 (.nilFunc) 1 8 := ⟨by kernel_rfl⟩
instance : UOne Tryz.prog 80 := ⟨⟨_, Tryz.underlying80, rfl⟩⟩
instance : USize Tryz.prog 81 (.nilFunc) 1 8 := ⟨by kernel_rfl⟩
instance : UOne Tryz.prog 81 := ⟨⟨_, Tryz.underlying81, rfl⟩⟩
instance : USize Tryz.prog 82 (.nilFunc) 1 8 := ⟨by kernel_rfl⟩
instance : UOne Tryz.prog 82 := ⟨⟨_, Tryz.underlying82, rfl⟩⟩
instance : USize Tryz.prog 83 (.agg #[.bool false, .slice none 0 0, .bool false, .slice none 0 0]) 4 64 := ⟨by kernel_rfl⟩
instance : USize Tryz.prog 84 (.agg #[.bool false, .slice none 0 0, .bool false, .slice none 0 0, .bool false, .slice none 0 0, .bool false, .slice none 0 0]) 8 128 := ⟨by kernel_rfl⟩
instance : USize Tryz.prog 85 (.nilFunc) 1 8 := ⟨by kernel_rfl⟩
instance : UOne Tryz.prog 85 := ⟨⟨_, Tryz.underlying85, rfl⟩⟩
instance : USize Tryz.prog 86 (.slice none 0 0) 1 24 := ⟨by kernel_rfl⟩
instance : USlice Tryz.prog 86 24 := ⟨Tryz.underlying86⟩
instance : UOne Tryz.prog 86 := ⟨⟨_, Tryz.underlying86, rfl⟩⟩
instance : USize Tryz.prog 87 (.nilFunc) 1 8 := ⟨by kernel_rfl⟩
instance : UOne Tryz.prog 87 := ⟨⟨_, Tryz.underlying87, rfl⟩⟩
instance : USize Tryz.prog 88 (.nilFunc) 1 8 := ⟨by kernel_rfl⟩
instance : UOne Tryz.prog 88 := ⟨⟨_, Tryz.underlying88, rfl⟩⟩
instance : USize Tryz.prog 89 (.nilFunc) 1 8 := ⟨by kernel_rfl⟩
instance : UOne Tryz.prog 89 := ⟨⟨_, Tryz.underlying89, rfl⟩⟩
instance : USize Tryz.prog 90 (.nilFunc) 1 8 := ⟨by kernel_rfl⟩
instance : UOne Tryz.prog 90 := ⟨⟨_, Tryz.underlying90, rfl⟩⟩
instance : USize Tryz.prog 91 (.nilFunc) 1 8 := ⟨by kernel_rfl⟩
instance : UOne Tryz.prog 91 := ⟨⟨_, Tryz.underlying91, rfl⟩⟩
instance : USize Tryz.prog 92 (.nilFunc) 1 8 := ⟨by kernel_rfl⟩
instance : UOne Tryz.prog 92 := ⟨⟨_, Tryz.underlying92, rfl⟩⟩
instance : USize Tryz.prog 93 (.nilFunc) 1 8 := ⟨by kernel_rfl⟩
instance : UOne Tryz.prog 93 := ⟨⟨_, Tryz.underlying93, rfl⟩⟩
instance : USize Tryz.prog 94 (.nilFunc) 1 8 := ⟨by kernel_rfl⟩
instance : UOne Tryz.prog 94 := ⟨⟨_, Tryz.underlying94, rfl⟩⟩
instance : USize Tryz.prog 95 (.nilFunc) 1 8 := ⟨by kernel_rfl⟩
instance : UOne Tryz.prog 95 := ⟨⟨_, Tryz.underlying95, rfl⟩⟩
instance : USize Tryz.prog 96 (.nilFunc) 1 8 := ⟨by kernel_rfl⟩
instance : UOne Tryz.prog 96 := ⟨⟨_, Tryz.underlying96, rfl⟩⟩
instance : USize Tryz.prog 97 (.nilFunc) 1 8 := ⟨by kernel_rfl⟩
instance : UOne Tryz.prog 97 := ⟨⟨_, Tryz.underlying97, rfl⟩⟩
instance : USize Tryz.prog 98 (.nilFunc) 1 8 := ⟨by kernel_rfl⟩
instance : UOne Tryz.prog 98 := ⟨⟨_, Tryz.underlying98, rfl⟩⟩
instance : USize Tryz.prog 99 (.nilFunc) 1 8 := ⟨by kernel_rfl⟩
instance : UOne Tryz.prog 99 := ⟨⟨_, Tryz.underlying99, rfl⟩⟩
instance : USize Tryz.prog 100 (.slice none 0 0) 1 24 := ⟨by kernel_rfl⟩
instance : USlice Tryz.prog 100 3 := ⟨Tryz.underlying100⟩
instance : UOne Tryz.prog 100 := ⟨⟨_, Tryz.underlying100, rfl⟩⟩
instance : USize Tryz.prog 102 (.nilFunc) 1 8 := ⟨by kernel_rfl⟩
instance : UOne Tryz.prog 102 := ⟨⟨_, Tryz.underlying102, rfl⟩⟩
instance : USize Tryz.prog 104 (.nilFunc) 1 8 := ⟨by kernel_rfl⟩
instance : UOne Tryz.prog 104 := ⟨⟨_, Tryz.underlying104, rfl⟩⟩
instance : USize Tryz.prog 106 (.nilFunc) 1 8 := ⟨by kernel_rfl⟩
instance : UOne Tryz.prog 106 := ⟨⟨_, Tryz.underlying106, rfl⟩⟩
instance : USize Tryz.prog 108 (.nilFunc) 1 8 := ⟨by kernel_rfl⟩
instance : UOne Tryz.prog 108 := ⟨⟨_, Tryz.underlying108, rfl⟩⟩
instance : USize Tryz.prog 109 (.nilFunc) 1 8 := ⟨by kernel_rfl⟩
instance : UOne Tryz.prog 109 := ⟨⟨_, Tryz.underlying109, rfl⟩⟩
instance : USize Tryz.prog 111 (.nilFunc) 1 8 := ⟨by kernel_rfl⟩
instance : UOne Tryz.prog 111 := ⟨⟨_, Tryz.underlying111, rfl⟩⟩
instance : USize Tryz.prog 112 (.int .u64 0) 1 8 := ⟨by kernel_rfl⟩
instance : UInt Tryz.prog 112 .u64 := ⟨Tryz.underlying112⟩
instance : UOne Tryz.prog 112 := ⟨⟨_, Tryz.underlying112, rfl⟩⟩
instance : USize Tryz.prog 113 (.nilFunc) 1 8 := ⟨by kernel_rfl⟩
instance : UOne Tryz.prog 113 := ⟨⟨_, Tryz.underlying113, rfl⟩⟩
instance : USize Tryz.prog 114 (.nilFunc) 1 8 := ⟨by kernel_rfl⟩
instance : UOne Tryz.prog 114 := ⟨⟨_, Tryz.underlying114, rfl⟩⟩
instance : USize Tryz.prog 116 (.nilFunc) 1 8 := ⟨by kernel_rfl⟩
instance : UOne Tryz.prog 116 := ⟨⟨_, Tryz.underlying116, rfl⟩⟩
instance : USize Tryz.prog 117 (.nilFunc) 1 8 := ⟨by kernel_rfl⟩
instance : UOne Tryz.prog 117 := ⟨⟨_, Tryz.underlying117, rfl⟩⟩
instance : USize Tryz.prog 119 (.nilFunc) 1 8 := ⟨by kernel_rfl⟩
instance : UOne Tryz.prog 119 := ⟨⟨_, Tryz.underlying119, rfl⟩⟩
instance : USize Tryz.prog 121 (.nilFunc) 1 8 := ⟨by kernel_rfl⟩
instance : UOne Tryz.prog 121 := ⟨⟨_, Tryz.underlying121, rfl⟩⟩
instance : USize Tryz.prog 122 (.nilFunc) 1 8 := ⟨by kernel_rfl⟩
instance : UOne Tryz.prog 122 := ⟨⟨_, Tryz.underlying122, rfl⟩⟩
instance : USize Tryz.prog 123 (.nilFunc) 1 8 := ⟨by kernel_rfl⟩
instance : UOne Tryz.prog 123 := ⟨⟨_, Tryz.underlying123, rfl⟩⟩
instance : USize Tryz.prog 124 (.nilFunc) 1 8 := ⟨by kernel_rfl⟩
instance : UOne Tryz.prog 124 := ⟨⟨_, Tryz.underlying124, rfl⟩⟩
instance : USize Tryz.prog 125 (.nilFunc) 1 8 := ⟨by kernel_rfl⟩
instance : UOne Tryz.prog 125 := ⟨⟨_, Tryz.underlying125, rfl⟩⟩
instance : USize Tryz.prog 126 (.nilIface) 1 16 := ⟨by kernel_rfl⟩
instance : UOne Tryz.prog 126 := ⟨⟨_, Tryz.underlying126, rfl⟩⟩
instance : USize Tryz.prog 127 (.nilIface) 1 16 := ⟨by kernel_rfl⟩
instance : UOne Tryz.prog 127 := ⟨⟨_, Tryz.underlying127, rfl⟩⟩
instance : USize Tryz.prog 128 (.pointer none) 1 8 := ⟨by kernel_rfl⟩
instance : UOne Tryz.prog 128 := ⟨⟨_, Tryz.underlying128, rfl⟩⟩
instance : USize Tryz.prog 129 (.nilFunc) 1 8 := ⟨by kernel_rfl⟩
instance : UOne Tryz.prog 129 := ⟨⟨_, Tryz.underlying129, rfl⟩⟩
instance : USize Tryz.prog 130 (.agg #[.pointer none, .pointer none, .pointer none, .string ⟨#[]⟩]) 4 40 := ⟨by kernel_rfl⟩
instance : UAgg Tryz.prog 130 := ⟨⟨_, Tryz.underlying130⟩⟩
instance : UField Tryz.prog 130 0 17 0 := ⟨⟨_, _, Tryz.underlying130, rfl, rfl, rfl, by kernel_rfl⟩⟩
instance : UField Tryz.prog 130 1 17 1 := ⟨⟨_, _, Tryz.underlying130, rfl, rfl, rfl, by kernel_rfl⟩⟩
instance : UField Tryz.prog 130 2 17 2 := ⟨⟨_, _, Tryz.underlying130, rfl, rfl, rfl, by kernel_rfl⟩⟩
instance : UField Tryz.prog 130 3 9 3 := ⟨⟨_, _, Tryz.underlying130, rfl, rfl, rfl, by kernel_rfl⟩⟩
instance : USize Tryz.prog 131 (.agg #[.pointer none, .pointer none, .pointer none, .string ⟨#[]⟩]) 4 40 := ⟨by kernel_rfl⟩
instance : UAgg Tryz.prog 131 := ⟨⟨_, Tryz.underlying131⟩⟩
instance : UField Tryz.prog 131 0 17 0 := ⟨⟨_, _, Tryz.underlying131, rfl, rfl, rfl, by kernel_rfl⟩⟩
instance : UField Tryz.prog 131 1 17 1 := ⟨⟨_, _, Tryz.underlying131, rfl, rfl, rfl, by kernel_rfl⟩⟩
instance : UField Tryz.prog 131 2 17 2 := ⟨⟨_, _, Tryz.underlying131, rfl, rfl, rfl, by kernel_rfl⟩⟩
instance : UField Tryz.prog 131 3 9 3 := ⟨⟨_, _, Tryz.underlying131, rfl, rfl, rfl, by kernel_rfl⟩⟩
instance : USize Tryz.prog 132 (.agg #[]) 0 0 := ⟨by kernel_rfl⟩
instance : USize Tryz.prog 133 (.agg #[]) 0 0 := ⟨by kernel_rfl⟩
instance : UAgg Tryz.prog 133 := ⟨⟨_, Tryz.underlying133⟩⟩
instance : USize Tryz.prog 134 (.agg #[]) 0 0 := ⟨by kernel_rfl⟩
instance : UAgg Tryz.prog 134 := ⟨⟨_, Tryz.underlying134⟩⟩
instance : USize Tryz.prog 135 (.int .u32 0) 1 4 := ⟨by kernel_rfl⟩
instance : UInt Tryz.prog 135 .u32 := ⟨Tryz.underlying135⟩
instance : UOne Tryz.prog 135 := ⟨⟨_, Tryz.underlying135, rfl⟩⟩
instance : USize Tryz.prog 136 (.int .u8 0) 1 1 := ⟨by kernel_rfl⟩
instance : UInt Tryz.prog 136 .u8 := ⟨Tryz.underlying136⟩
instance : UOne Tryz.prog 136 := ⟨⟨_, Tryz.underlying136, rfl⟩⟩
instance : USize Tryz.prog 137 (.int .u8 0) 1 1 := ⟨by kernel_rfl⟩
instance : UInt Tryz.prog 137 .u8 := ⟨Tryz.underlying137⟩
instance : UOne Tryz.prog 137 := ⟨⟨_, Tryz.underlying137, rfl⟩⟩
instance : USize Tryz.prog 138 (.nilFunc) 1 8 := ⟨by kernel_rfl⟩
instance : UOne Tryz.prog 138 := ⟨⟨_, Tryz.underlying138, rfl⟩⟩
instance : USize Tryz.prog 139 (.pointer none) 1 8 := ⟨by kernel_rfl⟩
instance : UOne Tryz.prog 139 := ⟨⟨_, Tryz.underlying139, rfl⟩⟩
instance : USize Tryz.prog 140 (.int .i32 0) 1 4 := ⟨by kernel_rfl⟩
instance : UInt Tryz.prog 140 .i32 := ⟨Tryz.underlying140⟩
instance : UOne Tryz.prog 140 := ⟨⟨_, Tryz.underlying140, rfl⟩⟩
instance : USize Tryz.prog 141 (.int .i32 0) 1 4 := ⟨by kernel_rfl⟩
instance : UInt Tryz.prog 141 .i32 := ⟨Tryz.underlying141⟩
instance : UOne Tryz.prog 141 := ⟨⟨_, Tryz.underlying141, rfl⟩⟩
instance : USize Tryz.prog 142 (.agg #[.int .u64 0, .int .u64 0, .int .u32 0, .int .u8 0, .int .u8 0, .int .u8 0, .int .u8 0, .nilFunc, .pointer none, .int .i32 0, .int .i32 0]) 11 48 := ⟨by kernel_rfl⟩
instance : UAgg Tryz.prog 142 := ⟨⟨_, Tryz.underlying142⟩⟩
instance : UField Tryz.prog 142 0 12 0 := ⟨⟨_, _, Tryz.underlying142, rfl, rfl, rfl, by kernel_rfl⟩⟩
instance : UField Tryz.prog 142 1 12 1 := ⟨⟨_, _, Tryz.underlying142, rfl, rfl, rfl, by kernel_rfl⟩⟩
instance : UField Tryz.prog 142 2 135 2 := ⟨⟨_, _, Tryz.underlying142, rfl, rfl, rfl, by kernel_rfl⟩⟩
instance : UField Tryz.prog 142 3 136 3 := ⟨⟨_, _, Tryz.underlying142, rfl, rfl, rfl, by kernel_rfl⟩⟩
instance : UField Tryz.prog 142 4 5 4 := ⟨⟨_, _, Tryz.underlying142, rfl, rfl, rfl, by kernel_rfl⟩⟩
instance : UField Tryz.prog 142 5 5 5 := ⟨⟨_, _, Tryz.underlying142, rfl, rfl, rfl, by kernel_rfl⟩⟩
instance : UField Tryz.prog 142 6 137 6 := ⟨⟨_, _, Tryz.underlying142, rfl, rfl, rfl, by kernel_rfl⟩⟩
instance : UField Tryz.prog 142 7 138 7 := ⟨⟨_, _, Tryz.underlying142, rfl, rfl, rfl, by kernel_rfl⟩⟩
instance : UField Tryz.prog 142 8 139 8 := ⟨⟨_, _, Tryz.underlying142, rfl, rfl, rfl, by kernel_rfl⟩⟩
instance : UField Tryz.prog 142 9 140 9 := ⟨⟨_, _, Tryz.underlying142, rfl, rfl, rfl, by kernel_rfl⟩⟩
instance : UField Tryz.prog 142 10 141 10 := ⟨⟨_, _, Tryz.underlying142, rfl, rfl, rfl, by kernel_rfl⟩⟩
instance : USize Tryz.prog 143 (.agg #[.int .u64 0, .int .u64 0, .int .u32 0, .int .u8 0, .int .u8 0, .int .u8 0, .int .u8 0, .nilFunc, .pointer none, .int .i32 0, .int .i32 0]) 11 48 := ⟨by kernel_rfl⟩
instance : UAgg Tryz.prog 143 := ⟨⟨_, Tryz.underlying143⟩⟩
instance : UField Tryz.prog 143 0 12 0 := ⟨⟨_, _, Tryz.underlying143, rfl, rfl, rfl, by kernel_rfl⟩⟩
instance : UField Tryz.prog 143 1 12 1 := ⟨⟨_, _, Tryz.underlying143, rfl, rfl, rfl, by kernel_rfl⟩⟩
instance : UField Tryz.prog 143 2 135 2 := ⟨⟨_, _, Tryz.underlying143, rfl, rfl, rfl, by kernel_rfl⟩⟩
instance : UField Tryz.prog 143 3 136 3 := ⟨⟨_, _, Tryz.underlying143, rfl, rfl, rfl, by kernel_rfl⟩⟩
instance : UField Tryz.prog 143 4 5 4 := ⟨⟨_, _, Tryz.underlying143, rfl, rfl, rfl, by kernel_rfl⟩⟩
instance : UField Tryz.prog 143 5 5 5 := ⟨⟨_, _, Tryz.underlying143, rfl, rfl, rfl, by kernel_rfl⟩⟩
instance : UField Tryz.prog 143 6 137 6 := ⟨⟨_, _, Tryz.underlying143, rfl, rfl, rfl, by kernel_rfl⟩⟩
instance : UField Tryz.prog 143 7 138 7 := ⟨⟨_, _, Tryz.underlying143, rfl, rfl, rfl, by kernel_rfl⟩⟩
instance : UField Tryz.prog 143 8 139 8 := ⟨⟨_, _, Tryz.underlying143, rfl, rfl, rfl, by kernel_rfl⟩⟩
instance : UField Tryz.prog 143 9 140 9 := ⟨⟨_, _, Tryz.underlying143, rfl, rfl, rfl, by kernel_rfl⟩⟩
instance : UField Tryz.prog 143 10 141 10 := ⟨⟨_, _, Tryz.underlying143, rfl, rfl, rfl, by kernel_rfl⟩⟩
instance : USize Tryz.prog 144 (.agg #[.string ⟨#[]⟩]) 1 16 := ⟨by kernel_rfl⟩
instance : UAgg Tryz.prog 144 := ⟨⟨_, Tryz.underlying144⟩⟩
instance : UField Tryz.prog 144 0 9 0 := ⟨⟨_, _, Tryz.underlying144, rfl, rfl, rfl, by kernel_rfl⟩⟩
instance : USize Tryz.prog 145 (.agg #[.string ⟨#[]⟩]) 1 16 := ⟨by kernel_rfl⟩
instance : UAgg Tryz.prog 145 := ⟨⟨_, Tryz.underlying145⟩⟩
instance : UField Tryz.prog 145 0 9 0 := ⟨⟨_, _, Tryz.underlying145, rfl, rfl, rfl, by kernel_rfl⟩⟩
instance : USize Tryz.prog 146 (.pointer none) 1 8 := ⟨by kernel_rfl⟩
instance : IsFn Tryz.prog 3 := ⟨⟨_, Tryz.func3, by kernel_rfl, by kernel_rfl⟩⟩
instance : IsFn Tryz.prog 4 := ⟨⟨_, Tryz.func4, by kernel_rfl, by kernel_rfl⟩⟩
instance : IsFn Tryz.prog 5 := ⟨⟨_, Tryz.func5, by kernel_rfl, by kernel_rfl⟩⟩
instance : IsFn Tryz.prog 6 := ⟨⟨_, Tryz.func6, by kernel_rfl, by kernel_rfl⟩⟩
instance : IsFn Tryz.prog 7 := ⟨⟨_, Tryz.func7, by kernel_rfl, by kernel_rfl⟩⟩
instance : IsFn Tryz.prog 8 := ⟨⟨_, Tryz.func8, by kernel_rfl, by kernel_rfl⟩⟩
instance : IsFn Tryz.prog 9 := ⟨⟨_, Tryz.func9, by kernel_rfl, by kernel_rfl⟩⟩
instance : IsFn Tryz.prog 10 := ⟨⟨_, Tryz.func10, by kernel_rfl, by kernel_rfl⟩⟩
instance : IsFn Tryz.prog 11 := ⟨⟨_, Tryz.func11, by kernel_rfl, by kernel_rfl⟩⟩
instance : IsFn Tryz.prog 12 := ⟨⟨_, Tryz.func12, by kernel_rfl, by kernel_rfl⟩⟩
instance : IsFn Tryz.prog 13 := ⟨⟨_, Tryz.func13, by kernel_rfl, by kernel_rfl⟩⟩
instance : IsFn Tryz.prog 14 := ⟨⟨_, Tryz.func14, by kernel_rfl, by kernel_rfl⟩⟩
instance : IsFn Tryz.prog 15 := ⟨⟨_, Tryz.func15, by kernel_rfl, by kernel_rfl⟩⟩
instance : IsFn Tryz.prog 16 := ⟨⟨_, Tryz.func16, by kernel_rfl, by kernel_rfl⟩⟩
instance : IsFn Tryz.prog 17 := ⟨⟨_, Tryz.func17, by kernel_rfl, by kernel_rfl⟩⟩
instance : IsFn Tryz.prog 18 := ⟨⟨_, Tryz.func18, by kernel_rfl, by kernel_rfl⟩⟩
instance : IsFn Tryz.prog 19 := ⟨⟨_, Tryz.func19, by kernel_rfl, by kernel_rfl⟩⟩
instance : IsFn Tryz.prog 20 := ⟨⟨_, Tryz.func20, by kernel_rfl, by kernel_rfl⟩⟩
instance : IsFn Tryz.prog 21 := ⟨⟨_, Tryz.func21, by kernel_rfl, by kernel_rfl⟩⟩
instance : IsFn Tryz.prog 22 := ⟨⟨_, Tryz.func22, by kernel_rfl, by kernel_rfl⟩⟩
instance : IsFn Tryz.prog 23 := ⟨⟨_, Tryz.func23, by kernel_rfl, by kernel_rfl⟩⟩
instance : IsFn Tryz.prog 24 := ⟨⟨_, Tryz.func24, by kernel_rfl, by kernel_rfl⟩⟩
instance : IsFn Tryz.prog 25 := ⟨⟨_, Tryz.func25, by kernel_rfl, by kernel_rfl⟩⟩
instance : IsFn Tryz.prog 26 := ⟨⟨_, Tryz.func26, by kernel_rfl, by kernel_rfl⟩⟩
instance : IsFn Tryz.prog 27 := ⟨⟨_, Tryz.func27, by kernel_rfl, by kernel_rfl⟩⟩
instance : IsFn Tryz.prog 28 := ⟨⟨_, Tryz.func28, by kernel_rfl, by kernel_rfl⟩⟩
instance : IsFn Tryz.prog 29 := ⟨⟨_, Tryz.func29, by kernel_rfl, by kernel_rfl⟩⟩
instance : IsFn Tryz.prog 30 := ⟨⟨_, Tryz.func30, by kernel_rfl, by kernel_rfl⟩⟩
instance : IsFn Tryz.prog 31 := ⟨⟨_, Tryz.func31, by kernel_rfl, by kernel_rfl⟩⟩
instance : IsFn Tryz.prog 32 := ⟨⟨_, Tryz.func32, by kernel_rfl, by kernel_rfl⟩⟩
instance : IsFn Tryz.prog 33 := ⟨⟨_, Tryz.func33, by kernel_rfl, by kernel_rfl⟩⟩
instance : IsFn Tryz.prog 34 := ⟨⟨_, Tryz.func34, by kernel_rfl, by kernel_rfl⟩⟩
instance : IsFn Tryz.prog 35 := ⟨⟨_, Tryz.func35, by kernel_rfl, by kernel_rfl⟩⟩
instance : IsFn Tryz.prog 36 := ⟨⟨_, Tryz.func36, by kernel_rfl, by kernel_rfl⟩⟩
instance : IsFn Tryz.prog 37 := ⟨⟨_, Tryz.func37, by kernel_rfl, by kernel_rfl⟩⟩
instance : IsFn Tryz.prog 38 := ⟨⟨_, Tryz.func38, by kernel_rfl, by kernel_rfl⟩⟩
instance : IsFn Tryz.prog 39 := ⟨⟨_, Tryz.func39, by kernel_rfl, by kernel_rfl⟩⟩
instance : IsFn Tryz.prog 40 := ⟨⟨_, Tryz.func40, by kernel_rfl, by kernel_rfl⟩⟩
instance : IsFn Tryz.prog 41 := ⟨⟨_, Tryz.func41, by kernel_rfl, by kernel_rfl⟩⟩
instance : IsFn Tryz.prog 42 := ⟨⟨_, Tryz.func42, by kernel_rfl, by kernel_rfl⟩⟩
instance : IsFn Tryz.prog 43 := ⟨⟨_, Tryz.func43, by kernel_rfl, by kernel_rfl⟩⟩
instance : IsFn Tryz.prog 44 := ⟨⟨_, Tryz.func44, by kernel_rfl, by kernel_rfl⟩⟩
instance : IsFn Tryz.prog 45 := ⟨⟨_, Tryz.func45, by kernel_rfl, by kernel_rfl⟩⟩
instance : IsFn Tryz.prog 46 := ⟨⟨_, Tryz.func46, by kernel_rfl, by kernel_rfl⟩⟩
instance : IsFn Tryz.prog 47 := ⟨⟨_, Tryz.func47, by kernel_rfl, by kernel_rfl⟩⟩
instance : IsFn Tryz.prog 48 := ⟨⟨_, Tryz.func48, by kernel_rfl, by kernel_rfl⟩⟩
instance : IsFn Tryz.prog 49 := ⟨⟨_, Tryz.func49, by kernel_rfl, by kernel_rfl⟩⟩
instance : IsFn Tryz.prog 50 := ⟨⟨_, Tryz.func50, by kernel_rfl, by kernel_rfl⟩⟩
instance : IsFn Tryz.prog 51 := ⟨⟨_, Tryz.func51, by kernel_rfl, by kernel_rfl⟩⟩
instance : IsFn Tryz.prog 52 := ⟨⟨_, Tryz.func52, by kernel_rfl, by kernel_rfl⟩⟩
instance : IsFn Tryz.prog 53 := ⟨⟨_, Tryz.func53, by kernel_rfl, by kernel_rfl⟩⟩
instance : IsFn Tryz.prog 54 := ⟨⟨_, Tryz.func54, by kernel_rfl, by kernel_rfl⟩⟩
instance : IsFn Tryz.prog 55 := ⟨⟨_, Tryz.func55, by kernel_rfl, by kernel_rfl⟩⟩
instance : IsFn Tryz.prog 56 := ⟨⟨_, Tryz.func56, by kernel_rfl, by kernel_rfl⟩⟩
instance : IsFn Tryz.prog 57 := ⟨⟨_, Tryz.func57, by kernel_rfl, by kernel_rfl⟩⟩
instance : IsFn Tryz.prog 58 := ⟨⟨_, Tryz.func58, by kernel_rfl, by kernel_rfl⟩⟩
instance : IsFn Tryz.prog 59 := ⟨⟨_, Tryz.func59, by kernel_rfl, by kernel_rfl⟩⟩
instance : IsFn Tryz.prog 60 := ⟨⟨_, Tryz.func60, by kernel_rfl, by kernel_rfl⟩⟩
instance : IsFn Tryz.prog 61 := ⟨⟨_, Tryz.func61, by kernel_rfl, by kernel_rfl⟩⟩
instance : IsFn Tryz.prog 62 := ⟨⟨_, Tryz.func62, by kernel_rfl, by kernel_rfl⟩⟩
instance : IsFn Tryz.prog 63 := ⟨⟨_, Tryz.func63, by kernel_rfl, by kernel_rfl⟩⟩
instance : IsFn Tryz.prog 64 := ⟨⟨_, Tryz.func64, by kernel_rfl, by kernel_rfl⟩⟩
instance : IsFn Tryz.prog 65 := ⟨⟨_, Tryz.func65, by kernel_rfl, by kernel_rfl⟩⟩
instance : IsFn Tryz.prog 66 := ⟨⟨_, Tryz.func66, by kernel_rfl, by kernel_rfl⟩⟩
instance : IsFn Tryz.prog 67 := ⟨⟨_, Tryz.func67, by kernel_rfl, by kernel_rfl⟩⟩
instance : IsFn Tryz.prog 68 := ⟨⟨_, Tryz.func68, by kernel_rfl, by kernel_rfl⟩⟩
instance : IsFn Tryz.prog 69 := ⟨⟨_, Tryz.func69, by kernel_rfl, by kernel_rfl⟩⟩
instance : IsFn Tryz.prog 70 := ⟨⟨_, Tryz.func70, by kernel_rfl, by kernel_rfl⟩⟩
instance : IsFn Tryz.prog 71 := ⟨⟨_, Tryz.func71, by kernel_rfl, by kernel_rfl⟩⟩
instance : IsFn Tryz.prog 72 := ⟨⟨_, Tryz.func72, by kernel_rfl, by kernel_rfl⟩⟩
instance : IsFn Tryz.prog 73 := ⟨⟨_, Tryz.func73, by kernel_rfl, by kernel_rfl⟩⟩
instance : IsFn Tryz.prog 74 := ⟨⟨_, Tryz.func74, by kernel_rfl, by kernel_rfl⟩⟩
instance : IsFn Tryz.prog 75 := ⟨⟨_, Tryz.func75, by kernel_rfl, by kernel_rfl⟩⟩
instance : IsFn Tryz.prog 76 := ⟨⟨_, Tryz.func76, by kernel_rfl, by kernel_rfl⟩⟩
instance : IsFn Tryz.prog 77 := ⟨⟨_, Tryz.func77, by kernel_rfl, by kernel_rfl⟩⟩
instance : IsFn Tryz.prog 78 := ⟨⟨_, Tryz.func78, by kernel_rfl, by kernel_rfl⟩⟩
instance : IsFn Tryz.prog 79 := ⟨⟨_, Tryz.func79, by kernel_rfl, by kernel_rfl⟩⟩
instance : IsFn Tryz.prog 80 := ⟨⟨_, Tryz.func80, by kernel_rfl, by kernel_rfl⟩⟩
instance : IsFn Tryz.prog 81 := ⟨⟨_, Tryz.func81, by kernel_rfl, by kernel_rfl⟩⟩
instance : IsFn Tryz.prog 82 := ⟨⟨_, Tryz.func82, by kernel_rfl, by kernel_rfl⟩⟩
instance : IsFn Tryz.prog 83 := ⟨⟨_, Tryz.func83, by kernel_rfl, by kernel_rfl⟩⟩
instance : IsFn Tryz.prog 84 := ⟨⟨_, Tryz.func84, by kernel_rfl, by kernel_rfl⟩⟩
instance : IsFn Tryz.prog 85 := ⟨⟨_, Tryz.func85, by kernel_rfl, by kernel_rfl⟩⟩
instance : IsFn Tryz.prog 86 := ⟨⟨_, Tryz.func86, by kernel_rfl, by kernel_rfl⟩⟩
instance : IsFn Tryz.prog 89 := ⟨⟨_, Tryz.func89, by kernel_rfl, by kernel_rfl⟩⟩
instance : IsFn Tryz.prog 90 := ⟨⟨_, Tryz.func90, by kernel_rfl, by kernel_rfl⟩⟩
instance : IsFn Tryz.prog 91 := ⟨⟨_, Tryz.func91, by kernel_rfl, by kernel_rfl⟩⟩
instance : IsFn Tryz.prog 92 := ⟨⟨_, Tryz.func92, by kernel_rfl, by kernel_rfl⟩⟩
instance : IsFn Tryz.prog 93 := ⟨⟨_, Tryz.func93, by kernel_rfl, by kernel_rfl⟩⟩
instance : IsFn Tryz.prog 94 := ⟨⟨_, Tryz.func94, by kernel_rfl, by kernel_rfl⟩⟩
instance : IsFn Tryz.prog 95 := ⟨⟨_, Tryz.func95, by kernel_rfl, by kernel_rfl⟩⟩
instance : IsFn Tryz.prog 96 := ⟨⟨_, Tryz.func96, by kernel_rfl, by kernel_rfl⟩⟩
instance : IsFn Tryz.prog 97 := ⟨⟨_, Tryz.func97, by kernel_rfl, by kernel_rfl⟩⟩
instance : IsFn Tryz.prog 98 := ⟨⟨_, Tryz.func98, by kernel_rfl, by kernel_rfl⟩⟩
instance : IsFn Tryz.prog 99 := ⟨⟨_, Tryz.func99, by kernel_rfl, by kernel_rfl⟩⟩
instance : IsFn Tryz.prog 100 := ⟨⟨_, Tryz.func100, by kernel_rfl, by kernel_rfl⟩⟩
instance : IsFn Tryz.prog 101 := ⟨⟨_, Tryz.func101, by kernel_rfl, by kernel_rfl⟩⟩
instance : IsFn Tryz.prog 102 := ⟨⟨_, Tryz.func102, by kernel_rfl, by kernel_rfl⟩⟩
instance : IsFn Tryz.prog 103 := ⟨⟨_, Tryz.func103, by kernel_rfl, by kernel_rfl⟩⟩
instance : IsFn Tryz.prog 104 := ⟨⟨_, Tryz.func104, by kernel_rfl, by kernel_rfl⟩⟩
instance : IsFn Tryz.prog 105 := ⟨⟨_, Tryz.func105, by kernel_rfl, by kernel_rfl⟩⟩
instance : IsFn Tryz.prog 106 := ⟨⟨_, Tryz.func106, by kernel_rfl, by kernel_rfl⟩⟩
theorem mixed : Tryz.prog.follows .mixedOrders = true := by kernel_rfl
end Go.Proofs.YthlbihbchobllaaGreat

namespace Go.Proofs.YthlbihbchobllaaGreat
open Go Go.Eng Go.Proofs
instance : UStruct Tryz.prog 7 [(0, 1), (1, 1), (2, 1), (3, 1)] := ⟨⟨_, Tryz.underlying7, by kernel_rfl⟩⟩
instance : UStruct Tryz.prog 8 [(0, 1), (1, 1), (2, 1), (3, 1)] := ⟨⟨_, Tryz.underlying8, by kernel_rfl⟩⟩
instance : UStruct Tryz.prog 13 [(0, 1), (1, 1)] := ⟨⟨_, Tryz.underlying13, by kernel_rfl⟩⟩
instance : UStruct Tryz.prog 14 [(0, 1), (1, 1)] := ⟨⟨_, Tryz.underlying14, by kernel_rfl⟩⟩
instance : UStruct Tryz.prog 18 [(0, 1)] := ⟨⟨_, Tryz.underlying18, by kernel_rfl⟩⟩
instance : UStruct Tryz.prog 19 [(0, 1)] := ⟨⟨_, Tryz.underlying19, by kernel_rfl⟩⟩
instance : UStruct Tryz.prog 23 [(0, 1), (1, 1), (2, 1)] := ⟨⟨_, Tryz.underlying23, by kernel_rfl⟩⟩
instance : UStruct Tryz.prog 24 [(0, 1), (1, 1), (2, 1)] := ⟨⟨_, Tryz.underlying24, by kernel_rfl⟩⟩
instance : UStruct Tryz.prog 26 [(0, 3), (3, 3), (6, 3)] := ⟨⟨_, Tryz.underlying26, by kernel_rfl⟩⟩
instance : UStruct Tryz.prog 27 [(0, 3), (3, 3), (6, 3)] := ⟨⟨_, Tryz.underlying27, by kernel_rfl⟩⟩
instance : UStruct Tryz.prog 42 [(0, 1), (1, 1)] := ⟨⟨_, Tryz.underlying42, by kernel_rfl⟩⟩
instance : UStruct Tryz.prog 43 [(0, 1), (1, 1)] := ⟨⟨_, Tryz.underlying43, by kernel_rfl⟩⟩
instance : UStruct Tryz.prog 53 [(0, 1), (1, 1)] := ⟨⟨_, Tryz.underlying53, by kernel_rfl⟩⟩
instance : UStruct Tryz.prog 54 [(0, 1), (1, 1)] := ⟨⟨_, Tryz.underlying54, by kernel_rfl⟩⟩
instance : UStruct Tryz.prog 59 [(0, 1), (1, 1), (2, 1), (3, 1)] := ⟨⟨_, Tryz.underlying59, by kernel_rfl⟩⟩
instance : UStruct Tryz.prog 60 [(0, 1), (1, 1), (2, 1), (3, 1)] := ⟨⟨_, Tryz.underlying60, by kernel_rfl⟩⟩
instance : UStruct Tryz.prog 130 [(0, 1), (1, 1), (2, 1), (3, 1)] := ⟨⟨_, Tryz.underlying130, by kernel_rfl⟩⟩
instance : UStruct Tryz.prog 131 [(0, 1), (1, 1), (2, 1), (3, 1)] := ⟨⟨_, Tryz.underlying131, by kernel_rfl⟩⟩
instance : UStruct Tryz.prog 133 [(0, 0)] := ⟨⟨_, Tryz.underlying133, by kernel_rfl⟩⟩
instance : UStruct Tryz.prog 134 [(0, 0)] := ⟨⟨_, Tryz.underlying134, by kernel_rfl⟩⟩
instance : UStruct Tryz.prog 142 [(0, 1), (1, 1), (2, 1), (3, 1), (4, 1), (5, 1), (6, 1), (7, 1), (8, 1), (9, 1), (10, 1)] := ⟨⟨_, Tryz.underlying142, by kernel_rfl⟩⟩
instance : UStruct Tryz.prog 143 [(0, 1), (1, 1), (2, 1), (3, 1), (4, 1), (5, 1), (6, 1), (7, 1), (8, 1), (9, 1), (10, 1)] := ⟨⟨_, Tryz.underlying143, by kernel_rfl⟩⟩
instance : UStruct Tryz.prog 144 [(0, 1)] := ⟨⟨_, Tryz.underlying144, by kernel_rfl⟩⟩
instance : UStruct Tryz.prog 145 [(0, 1)] := ⟨⟨_, Tryz.underlying145, by kernel_rfl⟩⟩
end Go.Proofs.YthlbihbchobllaaGreat
