/- The engine, values of several cells: structs, slices of structs. The engine: regions whose order is drawn, under a condition on the world that all effects keep. The engine: variables in memory of their own (boxed values), by their cells. The engine: regions whose order is drawn, by a tree of orders, under a condition on the world that all effects but the last keep; results that lie in memory; closures. The engine: results that lie in memory, closures, append to nothing. The engine, so that each step gives a new world and what it keeps: rules for walks with variables in memory. The engine: blocks of structs known whole, filled from the front; guarded operations of drawn regions. The engine: frames. What a walk knows of the world lies in one fact: the blocks that it knows whole, and facts on data, which stand whatever is stored into those blocks. The engine: frames, more: blocks of structs made, and written at any place. -/
import Derived.Test.YtlpheckjogphmaaGreatPz1
import Derived.Deep.MidRow
import Derived.Laws.Tables
import Derived.OrdersHeld
import Derived.Laws.CopyRow
import Derived.Great.BuildSlice
set_option linter.unusedVariables false
set_option linter.unusedSimpArgs false
namespace Go.Eng
open Go Go.RowKit
def subV (cs : List Value) : Nat → Nat → Option (List Value)
  | _, 0 => some []
  | off, n + 1 => match nthV cs off with
    | some v => match subV cs (off + 1) n with
      | some l => some (v :: l)
      | none => none
    | none => none
theorem subV_eq {cs : List Value} : ∀ {n off : Nat} {l : List Value}, subV cs off n = some l → (cs.drop off).take n = l
  | 0, off, l, h => by simp [subV] at h; simp [h]
  | n + 1, off, l, h => by
    simp only [subV, nthV_eq] at h
    cases hv : cs[off]? with
    | none => rw [hv] at h; simp at h
    | some v =>
      rw [hv] at h
      cases hs : subV cs (off + 1) n with
      | none => rw [hs] at h; simp at h
      | some l' =>
        rw [hs] at h
        simp at h
        subst h
        have hlt := (List.getElem?_eq_some_iff.1 hv).1
        have e := (List.getElem?_eq_some_iff.1 hv).2
        rw [List.drop_eq_getElem_cons hlt, List.take_succ_cons, subV_eq hs, e]
section
variable {P : Program} {σ : Store} {H : Array Obj} {d : Option Tmp} {t : TypeId} {pos : String} {af : Array Edge} {gd : Option (Nat × Bool)}
theorem ev_field {x : Operand} {tx : TypeId} {f : Nat} {ft off : Nat} [hF : UField P tx f ft off] [hO : UOne P ft] {cs : List Value} {v : Value} (hx : look σ x = some (.agg cs.toArray)) (hv : nthV cs off = some v) :
    Ev P σ H ⟨d, .field tx x f, t, pos, af, gd⟩ v := by
  unfold Ev
  intro ρ w hρ _
  obtain ⟨fs, fd, h1, h2, h3, h4, h5⟩ := hF.out
  subst h3 h4
  rw [nthV_eq] at hv
  simp [execOp, hρ x _ hx, Instr.field, run_underlying h1, h2, asAgg, part, run_isAgg_one hO, hv]
theorem add_add (a : Addr) (m n : Nat) : (a.add m).add n = a.add (m + n) := by
  unfold Addr.add
  by_cases hm : m = 0 <;> by_cases hn : n = 0 <;> simp_all [Nat.add_assoc]
theorem fieldSize {P : Program} {tx : TypeId} {f ft off : Nat} (hF : UField P tx f ft off) : ∃ fs fd ii, P.underlying tx = some (.struct fs) ∧ fs[f]? = some fd ∧ fd.type = ft ∧ fd.offset = off ∧ P.info? ft = some ii ∧ ii.size ≠ 0 := by
  obtain ⟨fs, fd, h1, h2, h3, h4, h5⟩ := hF.out
  cases hq : P.info? ft with
  | none => rw [hq] at h5; simp at h5
  | some ii =>
    rw [hq] at h5
    refine ⟨fs, fd, ii, h1, h2, h3, h4, rfl, fun h0 => ?_⟩
    simp [h0] at h5
theorem ev_fieldAddr {x : Operand} {tx : TypeId} {f : Nat} {ft off : Nat} [hF : UField P tx f ft off] {b o : Nat} (hx : look σ x = some (.pointer (some ⟨b, o, none⟩))) :
    Ev P σ H ⟨d, .fieldAddr tx x f, t, pos, af, gd⟩ (.pointer (some ⟨b, o + off, none⟩)) := by
  unfold Ev
  intro ρ w hρ _
  obtain ⟨fs, fd, ii, h1, h2, h3, h4, h5, h6⟩ := fieldSize hF
  subst h3 h4
  simp [execOp, hρ x _ hx, Instr.fieldAt, run_underlying h1, h2, Instr.sureAddr, fieldPlace, sizeOf, typeInfo, h5, h6, add_mk]
theorem ev_fieldAddrE {x : Operand} {tx : TypeId} {f : Nat} {ft off : Nat} [hF : UField P tx f ft off] {A : Option Addr} {m : Nat} (hx : look σ x = some (.pointer (elemA A m))) (hA : A.isSome = true) :
    Ev P σ H ⟨d, .fieldAddr tx x f, t, pos, af, gd⟩ (.pointer (elemA A (m + off))) := by
  unfold Ev
  intro ρ w hρ _
  obtain ⟨fs, fd, ii, h1, h2, h3, h4, h5, h6⟩ := fieldSize hF
  subst h3 h4
  cases A with
  | none => simp at hA
  | some a => simp [execOp, hρ x _ hx, Instr.fieldAt, run_underlying h1, h2, Instr.sureAddr, fieldPlace, sizeOf, typeInfo, h5, h6, elemA, add_add]
theorem ev_nilCheck {x : Operand} {a : Addr} (hx : look σ x = some (.pointer (some a))) : Ev P σ H ⟨d, .nilCheck x, t, pos, af, gd⟩ (.pointer (some a)) := by
  unfold Ev
  intro ρ w hρ _
  simp [execOp, hρ x _ hx]
theorem ev_indexM {x i : Operand} {ty e : TypeId} [hT : USlice P ty e] {z : Value} {sz b1 : Nat} [hS : USize P e z sz b1] {A : Option Addr} {n c : Nat} {k : IntKind} {z0 : Int} {m : Nat} [e0 : IsN z0 m]
    (hx : look σ x = some (.slice A n c)) (hi : look σ i = some (.int k z0)) (h : m < n) (hA : n = 0 ∨ A.isSome = true) : Ev P σ H ⟨d, .indexAddr ty x i, t, pos, af, gd⟩ (.pointer (elemA A (m * sz))) := by
  unfold Ev
  intro ρ w hρ _
  obtain ⟨ii, hii, _, hsz, _⟩ := hS.info
  rw [e0.out] at hi
  have hA' : A.isSome = true := hA.resolve_left (by omega)
  have h1 : (0 : Int) ≤ m ∧ (m : Int) < n := by omega
  cases A with
  | none => simp at hA'
  | some a => simp [execOp, hρ x _ hx, hρ i _ hi, Instr.indexAt, asIntOf, run_underlying hT.out, h1, sizeOf, typeInfo, hii, hsz, elemA]; intro h2; omega
end
structure Sm {α : Type} (k : Nat) (f : α → List Value) (H : Array Obj) (B : Nat) (A : Option Addr) (n c : Nat) (l : List α) : Prop where
  len : l.length = n
  cap : n ≤ c
  pos : 0 < k
  wid : ∀ x ∈ l, (f x).length = k
  mem : n = 0 ∨ ∃ b o, A = some ⟨b, o, none⟩ ∧ b < B ∧ ∀ j x, l[j]? = some x → ∀ q v, (f x)[q]? = some v → hcell H b (o + (j * k + q)) = some v
section
variable {α : Type} {k : Nat} {f : α → List Value} {w w' : World} {B lo n c : Nat} {A : Option Addr} {l : List α} {t : TypeId}
theorem Sm.in_heap {H : Array Obj} (h : Sm k f H B A n c l) : n = 0 ∨ ∃ b o, A = some ⟨b, o, none⟩ ∧ b < B ∧ b < H.size ∧ ∀ j x, l[j]? = some x → ∀ q v, (f x)[q]? = some v → hcell H b (o + (j * k + q)) = some v := by
  rcases h.mem with h0 | ⟨b, o, e, hlt, hc⟩
  · exact .inl h0
  · rcases Nat.eq_zero_or_pos n with h0 | h0
    · exact .inl h0
    · have hl : 0 < l.length := by have := h.len; omega
      have hw := h.wid l[0] (List.getElem_mem hl)
      have hp := h.pos
      have h1 := hc 0 l[0] (List.getElem?_eq_getElem hl) 0 (f l[0])[0] (List.getElem?_eq_getElem (by omega))
      exact .inr ⟨b, o, e, hlt, hcell_lt h1, hc⟩
theorem Sm.below (hb : Below B w w') (h : Sm k f w.heap B A n c l) : Sm k f w'.heap B A n c l :=
  ⟨h.len, h.cap, h.pos, h.wid, h.mem.imp id fun ⟨b, o, e, hlt, hc⟩ => ⟨b, o, e, hlt, fun j x hx q v hv => (hcell_below hb hlt).trans (hc j x hx q v hv)⟩⟩
theorem Sm.ext (hb : Ext w w') (h : Sm k f w.heap B A n c l) : Sm k f w'.heap B A n c l :=
  ⟨h.len, h.cap, h.pos, h.wid, h.in_heap.imp id fun ⟨b, o, e, hlt, hh, hc⟩ => ⟨b, o, e, hlt, fun j x hx q v hv => (hcell_below hb hh).trans (hc j x hx q v hv)⟩⟩
theorem Sm.mono {H : Array Obj} {B' : Nat} (h : Sm k f H B A n c l) (hB : B ≤ B') : Sm k f H B' A n c l :=
  ⟨h.len, h.cap, h.pos, h.wid, h.mem.imp id fun ⟨b, o, e, hlt, hc⟩ => ⟨b, o, e, Nat.lt_of_lt_of_le hlt hB, hc⟩⟩
theorem Sm.some {H : Array Obj} (h : Sm k f H B A n c l) : n = 0 ∨ A.isSome = true := h.mem.imp id fun ⟨b, o, e, _⟩ => by rw [e]; rfl
theorem Sm.isSome {H : Array Obj} (h : Sm k f H B A n c l) {i : Nat} (hi : i < n) : A.isSome = true := h.some.resolve_left (by omega)
theorem Sm.size {H : Array Obj} (h : Sm k f H B A n c l) : Sm k f H H.size A n c l :=
  ⟨h.len, h.cap, h.pos, h.wid, h.in_heap.imp id fun ⟨b, o, e, hlt, hh, hc⟩ => ⟨b, o, e, hh, hc⟩⟩
theorem Sm.nil (hk : 0 < k) (f : α → List Value) (H : Array Obj) (B : Nat) (A : Option Addr) (c : Nat) : Sm k f H B A 0 c [] := ⟨rfl, Nat.zero_le _, hk, fun x hx => (by cases hx), .inl rfl⟩
theorem Sm.take {H : Array Obj} (h : Sm k f H B A n c l) {i m : Nat} (hi : i ≤ n) (hm : i ≤ m) : Sm k f H B A i m (l.take i) :=
  ⟨by rw [List.length_take, h.len]; omega, hm, h.pos, fun x hx => h.wid x (List.mem_of_mem_take hx), by
    rcases h.mem with h0 | ⟨b, o, e, hlt, hc⟩
    · exact .inl (by omega)
    · exact .inr ⟨b, o, e, hlt, fun j x hx => hc j x (by rw [List.getElem?_take] at hx; split at hx <;> first | exact hx | cases hx)⟩⟩
theorem Sm.drop {H : Array Obj} (h : Sm k f H B A n c l) {i m : Nat} (hi : i ≤ n) (hm : n - i ≤ m) : Sm k f H B (elemA A (i * k)) (n - i) m (l.drop i) :=
  ⟨by rw [List.length_drop, h.len], hm, h.pos, fun x hx => h.wid x (List.mem_of_mem_drop hx), by
    rcases h.mem with h0 | ⟨b, o, e, hlt, hc⟩
    · exact .inl (by omega)
    · refine .inr ⟨b, o + i * k, by rw [e]; simp [elemA, add_mk], hlt, fun j x hx q v hv => ?_⟩
      rw [List.getElem?_drop] at hx
      have := hc (i + j) x hx q v hv
      rwa [Nat.add_mul, Nat.add_assoc (i * k), ← Nat.add_assoc] at this⟩
def cutM (k : Nat) (A : Option Addr) (m i : Nat) : Option Addr := if m = i then A else elemA A (i * k)
theorem Sm.dropC {H : Array Obj} (h : Sm k f H B A n c l) {i m m' : Nat} (hi : i ≤ n) (hm : n ≤ m) (hm' : n - i ≤ m') : Sm k f H B (cutM k A m i) (n - i) m' (l.drop i) := by
  unfold cutM
  split
  · subst_vars
    have : n - m = 0 := by omega
    exact ⟨by rw [List.length_drop, h.len], hm', h.pos, fun x hx => h.wid x (List.mem_of_mem_drop hx), .inl this⟩
  · exact h.drop hi hm'
theorem Sm.dropTake {H : Array Obj} (h : Sm k f H B A n c l) {i j m m' : Nat} (hi : i ≤ j) (hj : j ≤ n) (hm : n ≤ m) (hm' : j - i ≤ m') : Sm k f H B (cutM k A m i) (j - i) m' ((l.drop i).take (j - i)) := by
  have h1 := (h.dropC (i := i) (m := m) (m' := m - i) (by omega) hm (by omega)).take (i := j - i) (m := m') (by omega) hm'
  exact h1
end
/-! ### Slices of slices of several cells -/
section
variable {P : Program} {σ : Store} {H : Array Obj} {d : Option Tmp} {t : TypeId} {pos : String} {af : Array Edge} {gd : Option (Nat × Bool)} {x : Operand} {A : Option Addr} {n c : Nat}
theorem ev_slM_lh {ty e : TypeId} [hT : USlice P ty e] {z : Value} {sz b1 : Nat} [hS : USize P e z sz b1] {y u : Operand} {k k' : IntKind} {z1 z2 : Int} {l h : Nat} [e1 : IsN z1 l] [e2 : IsN z2 h] (hx : look σ x = some (.slice A n c)) (hy : look σ y = some (.int k z1)) (hu : look σ u = some (.int k' z2)) (hl : l ≤ h) (hn : h ≤ c) :
    Ev P σ H ⟨d, .slice ty x (some y) (some u) none, t, pos, af, gd⟩ (.slice (cutM sz A c l) (h - l) (c - l)) := by
  unfold Ev
  intro ρ w hρ _
  obtain rfl := e1.out
  obtain rfl := e2.out
  have hb : (Instr.sliceBounds true n c (some (.int k (l : Int))) (some (.int k' (h : Int))) none).run P w = .ok (l, h, c) w := by simp [Instr.sliceBounds, run_bound hl, run_bound hn]
  simp only [execOp, hρ x _ hx, hρ y _ hy, hρ u _ hu, Option.map_none, Option.map_some, Sem.run_bind, run_slice_gen (ty := ty) (e := e) (A := A) hb, Result.andThen_ok, Sem.run_pure, cutM, elemA]
theorem ev_loadM {x : Operand} {ty : TypeId} [hA : UAgg P ty] {z : Value} {sz b1 : Nat} [hS : USize P ty z sz b1] {α : Type} {f : α → List Value} {B n c i : Nat} {A : Option Addr} {l : List α} {y : α}
    (hx : look σ x = some (.pointer (elemA A (i * sz)))) (hs : Sm sz f H B A n c l) (hy : l[i]? = some y) : Ev P σ H ⟨d, .load ty x, t, pos, af, gd⟩ (.agg (f y).toArray) := by
  unfold Ev
  intro ρ w hρ hH
  have hi := (List.getElem?_eq_some_iff.1 hy).1
  have hlen := hs.len
  rcases hs.mem with h0 | ⟨b, o, rfl, _, hc⟩
  · omega
  · obtain ⟨fs, hfs⟩ := hA.out
    obtain ⟨ii, hii, _, hsz, _⟩ := hS.info
    have hw := hs.wid y (List.mem_of_getElem? hy)
    have hr : w.rangeAt b (o + i * sz) (f y) := fun q v hv => by
      rw [cell_of_hcell, hH, Nat.add_assoc]
      exact hc i y hy q v hv
    have := run_loadAt_mid (P := P) w b (o + i * sz) ty (f y) _ hr hfs rfl (by rw [hii]; simp [hsz, hw])
    have e : look σ x = some (.pointer (some ⟨b, o + i * sz, none⟩)) := by rw [hx]; simp [elemA, add_mk]
    simp [execOp, hρ x _ e, this]
theorem ev_loadMF {x : Operand} {ty : TypeId} [hO : UOne P ty] {sz off : Nat} {α : Type} {f : α → List Value} {B n c i : Nat} {A : Option Addr} {l : List α} {y : α} {v : Value}
    (hx : look σ x = some (.pointer (elemA A (i * sz + off)))) (hs : Sm sz f H B A n c l) (hy : l[i]? = some y) (hv : nthV (f y) off = some v) : Ev P σ H ⟨d, .load ty x, t, pos, af, gd⟩ v := by
  have hi := (List.getElem?_eq_some_iff.1 hy).1
  have hlen := hs.len
  rw [nthV_eq] at hv
  rcases hs.mem with h0 | ⟨b, o, rfl, _, hc⟩
  · omega
  · exact ev_load (b := b) (i := o + (i * sz + off)) (by rw [hx]; simp [elemA, add_mk]) (hc i y hy off v hv)
end
/-! ### A struct made -/
class UStruct (P : Program) (t : TypeId) (pl : outParam (List (Nat × Nat))) : Prop where
  out : ∃ fs : Array Field, P.underlying t = some (.struct fs) ∧ fs.toList.mapM (fun f => (P.info? f.type).map fun i => (f.offset, i.size)) = some pl
def putV : List Value → Nat → List Value → List Value
  | cs, _, [] => cs
  | [], _, _ => []
  | c :: cs, 0, v :: vs => v :: putV cs 0 vs
  | c :: cs, off + 1, v :: vs => c :: putV cs off (v :: vs)
theorem putV_nil (off : Nat) : ∀ cs : List Value, putV cs off [] = cs
  | [] => by simp [putV]
  | c :: cs => by simp [putV]
theorem putV_get : ∀ (cs : List Value) (off : Nat) (vs : List Value) (j : Nat), (putV cs off vs)[j]? = if off ≤ j ∧ j < off + vs.length ∧ j < cs.length then vs[j - off]? else cs[j]?
  | cs, off, [], j => by rw [putV_nil, if_neg]; simp; omega
  | [], off, v :: vs, j => by simp [putV]
  | c :: cs, 0, v :: vs, 0 => by simp [putV]
  | c :: cs, 0, v :: vs, j + 1 => by
    simp only [putV, List.getElem?_cons_succ, putV_get cs 0 vs j, List.length_cons]
    simp only [Nat.zero_le, true_and, Nat.zero_add, Nat.sub_zero, Nat.add_lt_add_iff_right, List.getElem?_cons_succ]
  | c :: cs, off + 1, v :: vs, 0 => by simp [putV]
  | c :: cs, off + 1, v :: vs, j + 1 => by
    simp only [putV, List.getElem?_cons_succ, putV_get cs off (v :: vs) j, List.length_cons]
    have : (off + 1 ≤ j + 1 ∧ j + 1 < off + 1 + (vs.length + 1) ∧ j + 1 < cs.length + 1) ↔ (off ≤ j ∧ j < off + (vs.length + 1) ∧ j < cs.length) := by omega
    simp only [this, Nat.add_sub_add_right]
theorem foldl_put (vs : List Value) (i : Nat) (off : Nat) (cs : Array Value) :
    ((vs.zipIdx i).foldl (fun (cs : Array Value) (p : Value × Nat) => cs.setIfInBounds (off + p.2) p.1) cs).toList = putV cs.toList (off + i) vs := by
  induction vs generalizing i cs with
  | nil => simp [putV_nil]
  | cons v vs ih =>
    simp only [List.zipIdx_cons, List.foldl_cons, ih]
    apply List.ext_getElem?
    intro j
    simp only [putV_get, Array.toList_setIfInBounds, List.length_set, List.length_cons, List.getElem?_set]
    by_cases h1 : off + i = j
    · subst h1
      by_cases h2 : off + i < cs.toList.length
      · have e1 : ¬ (off + (i + 1) ≤ off + i ∧ off + i < off + (i + 1) + vs.length ∧ off + i < cs.toList.length) := by omega
        have e2 : off + i ≤ off + i ∧ off + i < off + i + (vs.length + 1) ∧ off + i < cs.toList.length := by omega
        rw [if_neg e1, if_pos e2]
        simp_all
      · have e1 : ¬ (off + (i + 1) ≤ off + i ∧ off + i < off + (i + 1) + vs.length ∧ off + i < cs.toList.length) := by omega
        have e2 : ¬ (off + i ≤ off + i ∧ off + i < off + i + (vs.length + 1) ∧ off + i < cs.toList.length) := by omega
        rw [if_neg e1, if_neg e2]
        simp_all
    · have : (off + (i + 1) ≤ j ∧ j < off + (i + 1) + vs.length ∧ j < cs.toList.length) ↔ (off + i ≤ j ∧ j < off + i + (vs.length + 1) ∧ j < cs.toList.length) := by omega
      simp only [this, h1, if_false]
      split
      · rename_i h2
        rw [show j - (off + i) = (j - (off + (i + 1))) + 1 by omega, List.getElem?_cons_succ]
      · rfl
def fillV (pl : List (Nat × Nat)) : List Value → List (Nat × Value) → Option (List Value)
  | cs, [] => some cs
  | cs, (i, v) :: rest => match pl[i]? with
    | none => none
    | some (off, size) => if Nat.beq v.cells.toList.length size && Nat.ble (off + size) cs.length then fillV pl (putV cs off v.cells.toList) rest else none
theorem fillV_eq {pl : List (Nat × Nat)} : ∀ (parts : List (Nat × Value)) (cs r : List Value), fillV pl cs parts = some r → Instr.fill (fun i => pl[i]?) cs.toArray parts = some r.toArray
  | [], cs, r, h => by simp [fillV] at h; simp [Instr.fill, h]
  | (i, v) :: rest, cs, r, h => by
    simp only [fillV] at h
    cases hp : pl[i]? with
    | none => rw [hp] at h; simp at h
    | some os =>
      obtain ⟨off, size⟩ := os
      rw [hp] at h
      simp only at h
      split at h
      · rename_i hb
        simp only [Bool.and_eq_true, Nat.beq_eq, Nat.ble_eq, Array.length_toList] at hb
        have := fillV_eq rest _ r h
        simp only [Instr.fill, hp]
        have e1 : ¬ (v.cells.size ≠ size ∨ off + v.cells.size > cs.toArray.size) := by simp; omega
        rw [if_neg (by simpa using e1)]
        have e2 : Array.foldl (fun (cs : Array Value) (p : Value × Nat) => cs.setIfInBounds (off + p.2) p.1) cs.toArray v.cells.zipIdx = (putV cs off v.cells.toList).toArray := by
          apply Array.ext'
          have := foldl_put v.cells.toList 0 off cs.toArray
          simp only [Nat.add_zero] at this
          rw [← this]
          rw [← Array.foldl_toList, Array.toList_zipIdx]
        rw [e2]
        exact this
      · cases h
section
variable {P : Program} {σ : Store} {H : Array Obj} {d : Option Tmp} {t : TypeId} {pos : String} {af : Array Edge} {gd : Option (Nat × Bool)}
def looksP (σ : Store) : List (Nat × Operand) → Option (List (Nat × Value))
  | [] => some []
  | (i, x) :: xs => match look σ x with
    | some v => match looksP σ xs with
      | some vs => some ((i, v) :: vs)
      | none => none
    | none => none
theorem looksP_eq {ρ : Operand → Value} (h : Agree σ ρ) : ∀ (xs : List (Nat × Operand)) (vs : List (Nat × Value)), looksP σ xs = some vs → xs.map (fun p => (p.1, ρ p.2)) = vs
  | [], vs, e => by simp [looksP] at e; simp [e]
  | (i, x) :: xs, vs, e => by
    simp only [looksP] at e
    cases hx : look σ x with
    | none => rw [hx] at e; simp at e
    | some v =>
      rw [hx] at e
      cases hxs : looksP σ xs with
      | none => rw [hxs] at e; simp at e
      | some us =>
        rw [hxs] at e
        simp at e
        subst e
        rw [List.map_cons, h x v hx, looksP_eq h xs us hxs]
theorem ev_build {ty : TypeId} {pl : List (Nat × Nat)} [hU : UStruct P ty pl] {z : List Value} {sz b1 : Nat} [hS : USize P ty (.agg z.toArray) sz b1] {parts : List (Nat × Operand)} {vs : List (Nat × Value)} {r : List Value}
    (hp : looksP σ parts = some vs) (hr : fillV pl z vs = some r) : Ev P σ H ⟨d, .build ty parts.toArray, t, pos, af, gd⟩ (.agg r.toArray) := by
  unfold Ev
  intro ρ w hρ _
  obtain ⟨fs, h1, h2⟩ := hU.out
  obtain ⟨ii, hii, hz, hsz, _⟩ := hS.info
  have e1 := looksP_eq hρ _ _ hp
  have e2 := fillV_eq vs z r hr
  have e3 : P.built ty vs = some r.toArray := by
    unfold Program.built
    simp only [hii, h1, hz, h2, List.getElem?_toArray]
    exact e2
  have e4 : (parts.toArray.map fun (p : Nat × Operand) => (p.1, ρ p.2)).toList = vs := by simp [← e1]
  have e5 := _root_.Go.run_build (P := P) w ty (parts.toArray.map fun (p : Nat × Operand) => (p.1, ρ p.2)) r.toArray (by rw [e4]; exact e3)
  simp only [execOp, Sem.run_bind, e5, Result.andThen_ok, Sem.run_pure]
end
end Go.Eng
namespace Go.Eng
open Go Go.RowKit
def wpHeld (P : Program) (ops : Array Oper) (Q : Exit → Act → World → Prop) (S : World → Prop) : List (Nat × Nat) → Act → World → Prop
  | [], a, w => Q .normal a w
  | (i, 0) :: r, a, w => ∃ o v, ops[i]? = some o ∧ YieldsIf P ops S o v a ∧ wpHeld P ops Q S r (a.put o.dst v) w
  | (i, _ + 1) :: r, a, w => wpOp P ops Q i (fun a' w' => S w' ∧ wpHeld P ops Q S r a' w') a w
section
variable {P : Program} {ops : Array Oper} {Q : Exit → Act → World → Prop} {S : World → Prop}
end
def TH (P : Program) (N : Fm) (l : List Oper) (Q : Exit → Act → World → Prop) (S : World → Prop) (r : List (Nat × Nat)) (σ : Store) (w : World) : Prop :=
  ∀ a, Rep N σ a → wpHeld P l.toArray (Only Q) S r a w
def HeldK (P : Program) (l : List Oper) (Q : Exit → Act → World → Prop) (S : World → Prop) (r : List (Nat × Nat)) (a : Act) (w : World) : Prop := S w ∧ wpHeld P l.toArray (Only Q) S r a w
section
variable {P : Program} {N : Fm} {Q : Exit → Act → World → Prop} {S : World → Prop} {σ : Store} {w : World} {l : List Oper}
theorem TH.nil (h : G N .normal Q σ w) : TH P N l Q S [] σ w := by
  unfold G at h
  exact fun a ha => h a ha
theorem TH.s {i : Nat} {r : List (Nat × Nat)} {d : Nat} {op : Op} {t : TypeId} {pos : String} {af : Array Edge} {v : Value} (hi : pick1 l i = some ⟨some d, op, t, pos, af, none⟩)
    (h : ∀ w', S w' → Ev P σ w'.heap ⟨some d, op, t, pos, af, none⟩ v) (hd : Nat.blt d N.n = true) (k : TH P N l Q S r ((d, v) :: σ) w) : TH P N l Q S ((i, 0) :: r) σ w := fun a ha =>
  ⟨_, v, pick_at hi, .inl ⟨by simp [Region.wanted], fun w' hw' => by have := h w' hw'; unfold Ev at this; exact this _ w' ha.agree rfl⟩, k _ (ha.put hd v)⟩
theorem TH.e {i k : Nat} {r : List (Nat × Nat)} {o : Oper} (hi : pick1 l i = some o) (h : TL P N .seq l.toArray (Only (Exit.then (HeldK P l Q S r) Q)) [o] σ w) : TH P N l Q S ((i, k + 1) :: r) σ w := fun a ha => by
  unfold TL at h
  exact wpOp_of_wpList (pick_at hi) (h a ha)
theorem G.held {r : List (Nat × Nat)} (hS : S w) (h : TH P N l Q S r σ w) : G N .normal (Exit.then (HeldK P l Q S r) Q) σ w := by
  unfold G
  exact fun a ha => ⟨hS, h a ha⟩
end
attribute [irreducible] TH HeldK
end Go.Eng
namespace Go.Eng
open Go Go.RowKit
def Vr (H : Array Obj) (b : Nat) (t : TypeId) (cs : List Value) : Prop := H[b]? = some (.cells cs.toArray t (0, 0))
theorem Vr.lt {H : Array Obj} {b : Nat} {t : TypeId} {cs : List Value} (h : Vr H b t cs) : b < H.size := (Array.getElem?_eq_some_iff.1 h).1
theorem Vr.ext {w w' : World} {b : Nat} {t : TypeId} {cs : List Value} (hb : Ext w w') (h : Vr w.heap b t cs) : Vr w'.heap b t cs := (hb.block b h.lt).trans h
theorem Vr.below {w w' : World} {B b : Nat} {t : TypeId} {cs : List Value} (hb : RowKit.Below B w w') (hlt : b < B) (h : Vr w.heap b t cs) : Vr w'.heap b t cs := (hb.block b hlt).trans h
theorem Vr.upd {w w' : World} {b g : Nat} {t : TypeId} {cs : List Value} (hu : Upd g w w') (hne : b ≠ g) (h : Vr w.heap b t cs) : Vr w'.heap b t cs := (hu.block b hne).trans h
theorem Vr.cell {H : Array Obj} {b : Nat} {t : TypeId} {cs : List Value} (h : Vr H b t cs) (i : Nat) : hcell H b i = cs[i]? := by
  unfold hcell; rw [h]; simp
def putO : List Value → Nat → List Value → Option (List Value)
  | cs, _, [] => some cs
  | [], _, _ :: _ => none
  | c :: cs, 0, v :: vs => match putO cs 0 vs with
    | some l => some (v :: l)
    | none => none
  | c :: cs, off + 1, v :: vs => match putO cs off (v :: vs) with
    | some l => some (c :: l)
    | none => none
theorem putO_eq : ∀ (cs : List Value) (off : Nat) (vs r : List Value), putO cs off vs = some r → vs = [] ∧ r = cs ∨ off + vs.length ≤ cs.length ∧ r = cs.take off ++ vs ++ cs.drop (off + vs.length)
  | cs, off, [], r, h => by simp [putO] at h; exact .inl ⟨rfl, h.symm⟩
  | [], off, v :: vs, r, h => by simp [putO] at h
  | c :: cs, 0, v :: vs, r, h => by
    simp only [putO] at h
    cases hq : putO cs 0 vs with
    | none => rw [hq] at h; simp at h
    | some l =>
      rw [hq] at h; simp at h; subst h
      right
      rcases putO_eq cs 0 vs l hq with ⟨rfl, rfl⟩ | ⟨h1, rfl⟩
      · simp
      · simp only [List.length_cons, List.take_zero, List.nil_append, List.cons_append]
        refine ⟨by omega, ?_⟩
        rw [show 0 + (vs.length + 1) = (0 + vs.length) + 1 by omega, List.drop_succ_cons]
  | c :: cs, off + 1, v :: vs, r, h => by
    simp only [putO] at h
    cases hq : putO cs off (v :: vs) with
    | none => rw [hq] at h; simp at h
    | some l =>
      rw [hq] at h; simp at h; subst h
      right
      rcases putO_eq cs off (v :: vs) l hq with ⟨h1, _⟩ | ⟨h1, rfl⟩
      · cases h1
      · simp only [List.length_cons] at h1 ⊢
        refine ⟨by omega, ?_⟩
        rw [show off + 1 + (vs.length + 1) = (off + (vs.length + 1)) + 1 by omega, List.drop_succ_cons, List.take_succ_cons]
        rfl
section
variable {P : Program} {σ : Store} {H : Array Obj} {d : Option Tmp} {t : TypeId} {pos : String} {af : Array Edge} {gd : Option (Nat × Bool)}
theorem ev_loadV {x : Operand} {ty e : TypeId} [hO : UOne P ty] {b o : Nat} {cs : List Value} {v : Value} (hx : look σ x = some (.pointer (some ⟨b, o, none⟩))) (hV : Vr H b e cs) (hv : nthV cs o = some v) : Ev P σ H ⟨d, .load ty x, t, pos, af, gd⟩ v :=
  ev_load hx (by rw [hV.cell, ← nthV_eq]; exact hv)
theorem ev_loadVA {x : Operand} {ty e : TypeId} [hA : UAgg P ty] {z : Value} {sz b1 : Nat} [hS : USize P ty z sz b1] {b o : Nat} {cs cs' : List Value} (hx : look σ x = some (.pointer (some ⟨b, o, none⟩))) (hV : Vr H b e cs) (hv : subV cs o sz = some cs') :
    Ev P σ H ⟨d, .load ty x, t, pos, af, gd⟩ (.agg cs'.toArray) := by
  unfold Ev
  intro ρ w hρ hH
  obtain ⟨fs, hfs⟩ := hA.out
  obtain ⟨ii, hii, _, hsz, _⟩ := hS.info
  have hl : ∀ {n off : Nat} {l : List Value}, subV cs off n = some l → l.length = n := by
    intro n
    induction n with
    | zero => intro off l h; simp [subV] at h; subst h; rfl
    | succ n ih =>
      intro off l h
      simp only [subV] at h
      cases h1 : nthV cs off with
      | none => rw [h1] at h; simp at h
      | some v =>
        rw [h1] at h
        cases h2 : subV cs (off + 1) n with
        | none => rw [h2] at h; simp at h
        | some l' => rw [h2] at h; simp at h; subst h; simp [ih h2]
  have hlen := hl hv
  have e := subV_eq hv
  have hr : w.rangeAt b o cs' := fun j u hu => by
    rw [cell_of_hcell, hH, hV.cell]
    have hj := (List.getElem?_eq_some_iff.1 hu).1
    rw [← e, List.getElem?_take, if_pos (by omega), List.getElem?_drop] at hu
    exact hu
  have := run_loadAt_mid (P := P) w b o ty cs' _ hr hfs rfl (by rw [hii]; simp [hsz, hlen])
  simp [execOp, hρ x _ hx, this]
end
section
variable {P : Program} {N : Fm} {Q : Exit → Act → World → Prop} {σ : Store} {w : World} {ops : Array Oper} {d : Nat} {t : TypeId} {pos : String} {af : Array Edge} {rest : List Oper}
theorem TL.box {x : Operand} {ty : TypeId} {v : Value} (hx : look σ x = some v) (hd : Nat.blt d N.n = true)
    (K : ∀ w' b, b = w.heap.size → Vr w'.heap b ty v.cells.toList → Ext w w' → w'.heap.size = w.heap.size + 1 → TL P N .seq ops Q rest ((d, .pointer (some ⟨b, 0, none⟩)) :: σ) w') :
    TL P N .seq ops Q (⟨some d, .box ty x, t, pos, af, none⟩ :: rest) σ w := by
  refine TL.op (w' := w.alloc (.cells v.cells ty)) (fun ρ hρ => ?_) hd (K _ _ rfl (by unfold Vr; rw [heap_alloc]) (ext_alloc _ _) (size_alloc _ _))
  simp [execOp, hρ x _ hx, Instr.box, newVar, newRow]
theorem TL.boxA {x : Operand} {ty : TypeId} {cs : List Value} (hx : look σ x = some (.agg cs.toArray)) (hd : Nat.blt d N.n = true)
    (K : ∀ w' b, b = w.heap.size → Vr w'.heap b ty cs → Ext w w' → w'.heap.size = w.heap.size + 1 → TL P N .seq ops Q rest ((d, .pointer (some ⟨b, 0, none⟩)) :: σ) w') :
    TL P N .seq ops Q (⟨some d, .box ty x, t, pos, af, none⟩ :: rest) σ w := TL.box hx hd K
theorem TL.alloc {ty : TypeId} {z : Value} {sz b1 : Nat} [hS : USize P ty z sz b1] (hd : Nat.blt d N.n = true)
    (K : ∀ w' b, b = w.heap.size → Vr w'.heap b ty z.cells.toList → Ext w w' → w'.heap.size = w.heap.size + 1 → TL P N .seq ops Q rest ((d, .pointer (some ⟨b, 0, none⟩)) :: σ) w') :
    TL P N .seq ops Q (⟨some d, .alloc ty, t, pos, af, none⟩ :: rest) σ w := by
  obtain ⟨ii, hii, hz, hsz, _⟩ := hS.info
  refine TL.op (w' := w.alloc (.cells z.cells ty)) (fun ρ hρ => ?_) hd (K _ _ rfl (by unfold Vr; rw [heap_alloc]) (ext_alloc _ _) (size_alloc _ _))
  simp [execOp, Instr.alloc, zeroValue, typeInfo, hii, hz, newVar, newRow]
theorem TL.storeC {x y : Operand} {ty e : TypeId} {z : Value} {sz b1 : Nat} [hS : USize P ty z sz b1] {b o : Nat} {cs r vs : List Value} {v : Value} (hx : look σ x = some (.pointer (some ⟨b, o, none⟩))) (hy : look σ y = some v) (hvs : v.cells.toList = vs)
    (hsz : Nat.beq vs.length sz = true) (h1 : vs.all (·.oneCell') = true) (hV : Vr w.heap b e cs) (hr : putO cs o vs = some r)
    (K : ∀ w', Vr w'.heap b e r → Upd b w w' → TL P N .seq ops Q rest σ w') : TL P N .seq ops Q (⟨none, .store ty x y, t, pos, af, none⟩ :: rest) σ w := by
  obtain ⟨ii, hii, _, hsz', _⟩ := hS.info
  have hlen : vs.length = sz := Nat.eq_of_beq_eq_true hsz
  have hsize : v.cells.size = sz := by rw [← Array.length_toList, hvs, hlen]
  rcases putO_eq _ _ _ _ hr with ⟨rfl, rfl⟩ | ⟨hb, rfl⟩
  · refine TL.op0 (fun ρ hρ => ?_) (K w hV (upd_refl _ _))
    have hs0 : sz = 0 := by simpa using hlen.symm
    simp [execOp, hρ x _ hx, hρ y _ hy, Instr.storeAt, Instr.sureAddr, storeVar, sizeOf, typeInfo, hii, hsz', hsize, hvs, storeCells]
  · have hst := run_storeCells_at P b o e vs 0 cs.toArray w hV (by simpa using hb) (fun u hu => (List.all_eq_true.1 h1) u hu)
    simp only [Nat.add_zero] at hst
    refine TL.op0 (w' := w.setRow b (cs.take o ++ vs ++ cs.drop (o + vs.length)).toArray) (fun ρ hρ => ?_) (K _ ?_ (upd_setRow _ _ _))
    · simp [execOp, hρ x _ hx, hρ y _ hy, Instr.storeAt, Instr.sureAddr, storeVar, sizeOf, typeInfo, hii, hsz', hsize, hvs]
      rw [hst]
      simp
    · unfold Vr at hV ⊢
      rw [setRow_heap w b _ _ e _ hV]
theorem TL.storeV {x y : Operand} {ty e : TypeId} {z : Value} {b1 : Nat} [hS : USize P ty z 1 b1] {b o : Nat} {cs r : List Value} {v : Value} (hx : look σ x = some (.pointer (some ⟨b, o, none⟩))) (hy : look σ y = some v) (hvs : v.cells.toList = [v])
    (h1 : v.oneCell' = true) (hV : Vr w.heap b e cs) (hr : putO cs o [v] = some r) (K : ∀ w', Vr w'.heap b e r → Upd b w w' → TL P N .seq ops Q rest σ w') : TL P N .seq ops Q (⟨none, .store ty x y, t, pos, af, none⟩ :: rest) σ w :=
  TL.storeC hx hy hvs rfl (by simp [h1]) hV hr K
theorem TL.storeVA {x y : Operand} {ty e : TypeId} {z : Value} {sz b1 : Nat} [hS : USize P ty z sz b1] {b o : Nat} {cs r vs : List Value} (hx : look σ x = some (.pointer (some ⟨b, o, none⟩))) (hy : look σ y = some (.agg vs.toArray))
    (hsz : Nat.beq vs.length sz = true) (h1 : vs.all (·.oneCell') = true) (hV : Vr w.heap b e cs) (hr : putO cs o vs = some r)
    (K : ∀ w', Vr w'.heap b e r → Upd b w w' → TL P N .seq ops Q rest σ w') : TL P N .seq ops Q (⟨none, .store ty x y, t, pos, af, none⟩ :: rest) σ w :=
  TL.storeC hx hy rfl hsz h1 hV hr K
end
end Go.Eng
namespace Go.Eng
open Go Go.RowKit
inductive Rt where
  | nil
  | s (i : Nat) (r : Rt)
  | e (i : Nat) (r : Rt)
  | alt (a b : Rt)
def Rt.heads : Rt → List Nat
  | .e i _ => [i]
  | .alt a b => a.heads ++ b.heads
  | _ => []
def afters (ops : Array Oper) (j : Nat) : List Nat := match ops[j]? with
  | some o => (o.after.toList.filter (fun e => Region.binds .any e)).map (·.on)
  | none => []
def ins : List Nat → List Nat → List Nat
  | [], acc => acc
  | j :: l, acc => ins l (if acc.contains j then acc else j :: acc)
def clos (ops : Array Oper) : Nat → List Nat → List Nat
  | 0, l => l
  | n + 1, l => clos ops n (ins (l.flatMap (afters ops)) l)
theorem mem_ins : ∀ (l acc : List Nat) (j : Nat), j ∈ ins l acc → j ∈ l ∨ j ∈ acc
  | [], acc, j, h => .inr h
  | x :: l, acc, j, h => by
    rcases mem_ins l _ j h with h | h
    · exact .inl (List.mem_cons_of_mem _ h)
    · split at h
      · exact .inr h
      · rcases List.mem_cons.1 h with rfl | h
        · exact .inl (List.mem_cons_self ..)
        · exact .inr h
theorem afters_listed {ops : Array Oper} {L : Array Bool} (inv : CInv ops L) {j i : Nat} (hj : L.getD j false = true) (hi : i ∈ afters ops j) : L.getD i false = true := by
  unfold afters at hi
  cases ho : ops[j]? with
  | none => rw [ho] at hi; cases hi
  | some o =>
    rw [ho] at hi
    obtain ⟨e, he, rfl⟩ := List.mem_map.1 hi
    have := List.mem_filter.1 he
    exact inv.closed j o ho hj e (by simpa using this.1) this.2
theorem clos_listed {ops : Array Oper} {L : Array Bool} (inv : CInv ops L) : ∀ (n : Nat) (l : List Nat), (∀ j ∈ l, L.getD j false = true) → ∀ j ∈ clos ops n l, L.getD j false = true
  | 0, l, h, j, hj => h j hj
  | n + 1, l, h, j, hj => clos_listed inv n _ (fun k hk => by
    rcases mem_ins _ _ _ hk with hk | hk
    · obtain ⟨q, hq, hk⟩ := List.mem_flatMap.1 hk
      exact afters_listed inv (h q hq) hk
    · exact h k hk) j hj
def before (ops : Array Oper) (f i : Nat) : Bool := Nat.ble ops.size f || (clos ops ops.size (afters ops f)).contains i
theorem before_spec {ops : Array Oper} {L : Array Bool} (inv : CInv ops L) {f i : Nat} (h : before ops f i = true) (hi : L.getD i false = false) : f ∉ Region.ready .any ops L := by
  intro hr
  obtain ⟨_, o, ho, hall⟩ := mem_ready.1 hr
  simp only [before, Bool.or_eq_true, Nat.ble_eq] at h
  rcases h with h | h
  · have := (Array.getElem?_eq_some_iff.1 ho).1; omega
  · have := clos_listed inv ops.size (afters ops f) (fun j hj => by
      unfold afters at hj
      rw [ho] at hj
      obtain ⟨e, he, rfl⟩ := List.mem_map.1 hj
      have h2 := List.mem_filter.1 he
      exact hall e (by simpa using h2.1) h2.2) i (by simpa using h)
    rw [this] at hi; cases hi
def Rt.depth : Rt → Nat
  | .nil => 0
  | .s _ r => r.depth + 1
  | .e _ r => r.depth + 1
  | .alt a b => max a.depth b.depth
def Rt.isNil : Rt → Bool
  | .nil => true
  | _ => false
def treeC (ops : Array Oper) (f : Nat) : Rt → Bool → Array Bool → Bool
  | .nil, _, L => (Region.ready .any ops L).isEmpty
  | .s i r, _, L => (Region.ready .any ops L).contains i && Region.free .any ops L i && !Nat.beq i f && before ops f i && treeC ops f r true (L.setIfInBounds i true)
  | .e i r, top, L => (!top || decide (Region.ready .any ops L = [i])) && (!Nat.beq i f || r.isNil) && treeC ops f r true (L.setIfInBounds i true)
  | .alt a b, top, L => (!top || (decide (Region.ready .any ops L = a.heads ++ b.heads) && !(a.heads ++ b.heads).isEmpty)) && treeC ops f a false L && treeC ops f b false L
def treeB (ops : Array Oper) (f : Nat) (t : Rt) : Bool := Region.noSelect ops && Nat.ble t.depth ops.size && treeC ops f t true (Array.replicate ops.size false)
def wpAnyF (P : Program) (ops : Array Oper) (Q : Exit → Act → World → Prop) (S : World → Prop) (f : Nat) : Nat → Array Bool → Act → World → Prop
  | 0, L, a, w => Region.ready .any ops L = [] ∧ Q .normal a w
  | n + 1, L, a, w => (Region.ready .any ops L = [] → Q .normal a w) ∧ ∀ i ∈ Region.ready .any ops L, wpOp P ops Q i (fun a' w' => (i ≠ f → S w') ∧ wpAnyF P ops Q S f n (L.setIfInBounds i true) a' w') a w
def wpTree (P : Program) (ops : Array Oper) (Q : Exit → Act → World → Prop) (S : World → Prop) (f : Nat) : Rt → Act → World → Prop
  | .nil, a, w => Q .normal a w
  | .s i r, a, w => ∃ o v, ops[i]? = some o ∧ YieldsIf P ops S o v a ∧ wpTree P ops Q S f r (a.put o.dst v) w
  | .e i r, a, w => wpOp P ops Q i (fun a' w' => (i ≠ f → S w') ∧ wpTree P ops Q S f r a' w') a w
  | .alt x y, a, w => wpTree P ops Q S f x a w ∧ wpTree P ops Q S f y a w
section
variable {P : Program} {ops : Array Oper} {Q : Exit → Act → World → Prop} {S : World → Prop} {f : Nat}
theorem wpAny_of_F : ∀ (n : Nat) (L : Array Bool) (a : Act) (w : World), wpAnyF P ops Q S f n L a w → wpAny P .any ops Q n L a w
  | 0, _, _, _, h => h
  | n + 1, _, _, _, h => ⟨h.1, fun i hi => wpOp_mono (fun a' w' h' => wpAny_of_F n _ a' w' h'.2) (h.2 i hi)⟩
theorem wpAnyF_more : ∀ (n : Nat) (L : Array Bool) (a : Act) (w : World), wpAnyF P ops Q S f n L a w → wpAnyF P ops Q S f (n + 1) L a w
  | 0, L, a, w, h => ⟨fun _ => h.2, fun i hi => by rw [h.1] at hi; cases hi⟩
  | n + 1, L, a, w, h => ⟨h.1, fun i hi => wpOp_mono (fun a' w' h' => ⟨h'.1, wpAnyF_more n _ a' w' h'.2⟩) (h.2 i hi)⟩
theorem wpAnyF_le {n m : Nat} (hm : n ≤ m) {L : Array Bool} {a : Act} {w : World} (h : wpAnyF P ops Q S f n L a w) : wpAnyF P ops Q S f m L a w := by
  induction hm with
  | refl => exact h
  | step _ ih => exact wpAnyF_more _ _ _ _ ih
theorem wpAnyF_first {i : Nat} {oi : Oper} {v : Value} (hi : ops[i]? = some oi) (hif : i ≠ f) (hbf : before ops f i = true) (hsel : ∀ (j : Nat) (o : Oper) cs b, ops[j]? = some o → o.op ≠ .select cs b)
    (hQ : ∀ c a w, Q (.panic c) (a.put oi.dst v) w → Q (.panic c) a w) :
    ∀ (n : Nat) (L : Array Bool) (a : Act) (w : World), CInv ops L →
      (∀ j oj, ops[j]? = some oj → j ≠ i → L.getD j true = false → (∀ e ∈ oj.after, Region.binds .any e = true → e.on ≠ i) → oi.apart ops oj = true) →
      i ∈ Region.ready .any ops L → YieldsIf P ops S oi v a → S w →
      wpAnyF P ops Q S f n (L.setIfInBounds i true) (a.put oi.dst v) w → wpAnyF P ops Q S f (n + 1) L a w := by
  intro n
  induction n with
  | zero =>
    intro L a w inv _ hr hy hS H
    refine ⟨fun h => (by rw [h] at hr; cases hr), fun j hj => ?_⟩
    by_cases hji : j = i
    · subst hji; exact hy.wpOp hi hS ⟨fun _ => hS, H⟩
    · have := ready_mono hj hji
      rw [H.1] at this
      cases this
  | succ n ih =>
    intro L a w inv hfree hr hy hS H
    refine ⟨fun h => (by rw [h] at hr; cases hr), fun j hj => ?_⟩
    by_cases hji : j = i
    · subst hji; exact hy.wpOp hi hS ⟨fun _ => hS, H⟩
    · have h1 := H.2 j (ready_mono hj hji)
      obtain ⟨hjun, oj, hoj, hall⟩ := mem_ready.1 hj
      have hun := (mem_ready.1 hr).1
      have hun' : L.getD i false = false := getD_both hun
      have hjf : j ≠ f := fun e => by subst e; exact before_spec inv hbf hun' hj
      have hnot : ∀ e ∈ oj.after, Region.binds .any e = true → e.on ≠ i := fun e he hb heq => by
        have h1 := hall e he hb
        rw [heq, hun'] at h1
        cases h1
      have h2 := wpOp_putIf hoj (hfree j oj hoj hji hjun hnot) (fun cs b => hsel i oi cs b hi) (fun cs b => hsel j oj cs b hoj) hQ hy h1
      have hfree' : ∀ k ok, ops[k]? = some ok → k ≠ i → (L.setIfInBounds j true).getD k true = false →
          (∀ e ∈ ok.after, Region.binds .any e = true → e.on ≠ i) → oi.apart ops ok = true := fun k ok hk hki hun hno => by
        refine hfree k ok hk hki ?_ hno
        by_cases hjk : j = k
        · subst hjk; exact hjun
        · rw [getD_set_ne true hjk] at hun; exact hun
      refine wpOp_mono (fun a' w' h3 => ⟨fun _ => h3.2.1 hjf, ih (L.setIfInBounds j true) a' w' (inv.set hj) hfree' (ready_mono hr (Ne.symm hji)) h3.1 (h3.2.1 hjf) ?_⟩) h2
      rw [Array.setIfInBounds_comm _ _ hji]
      exact h3.2.2
theorem wpTree_both (hsel : Region.noSelect ops = true) (hQ : ∀ c a w, ¬ Q (.panic c) a w) (t : Rt) :
    (∀ (n : Nat) (L : Array Bool) (a : Act) (w : World), CInv ops L → t.depth ≤ n → treeC ops f t true L = true → (t = .nil ∨ S w) → wpTree P ops Q S f t a w → wpAnyF P ops Q S f n L a w) ∧
    (∀ (n : Nat) (L : Array Bool) (a : Act) (w : World), CInv ops L → t.depth ≤ n + 1 → treeC ops f t false L = true → wpTree P ops Q S f t a w → (∀ i ∈ t.heads, i ∈ Region.ready .any ops L) →
      ∀ i ∈ t.heads, wpOp P ops Q i (fun a' w' => (i ≠ f → S w') ∧ wpAnyF P ops Q S f n (L.setIfInBounds i true) a' w') a w) := by
  induction t with
  | nil =>
    refine ⟨fun n L a w inv hd hC hS h => ?_, fun n L a w inv hd hC h hr i hi => by cases hi⟩
    refine wpAnyF_le (Nat.zero_le n) ⟨?_, h⟩
    simpa [treeC] using hC
  | s i r ih =>
    refine ⟨fun n L a w inv hd hC hS h => ?_, fun n L a w inv hd hC h hr i hi => by cases hi⟩
    simp only [treeC, Bool.and_eq_true, Bool.not_eq_true'] at hC
    obtain ⟨⟨⟨⟨hrd, hf⟩, hif0⟩, hbf⟩, hC'⟩ := hC
    have hif : i ≠ f := fun e => by subst e; simp at hif0
    obtain ⟨o, v, ho, hy, h'⟩ := h
    have hS' : S w := hS.resolve_left (by simp)
    obtain ⟨m, rfl⟩ : ∃ m, n = m + 1 := ⟨n - 1, by simp only [Rt.depth] at hd; omega⟩
    have hrd' : i ∈ Region.ready .any ops L := by simpa using hrd
    exact wpAnyF_first ho hif hbf (Region.noSelect_spec hsel) (fun c a w h => absurd h (hQ _ _ _)) m L a w inv (Region.free_spec ho hf) hrd' hy hS'
      (ih.1 m _ _ w (inv.set hrd') (by simp only [Rt.depth] at hd; omega) hC' (.inr hS') h')
  | e i r ih =>
    have hd2 : ∀ (top : Bool) (n : Nat) (L : Array Bool) (a : Act) (w : World), CInv ops L → r.depth ≤ n → treeC ops f (.e i r) top L = true → wpTree P ops Q S f (.e i r) a w → i ∈ Region.ready .any ops L →
        wpOp P ops Q i (fun a' w' => (i ≠ f → S w') ∧ wpAnyF P ops Q S f n (L.setIfInBounds i true) a' w') a w := by
      intro top n L a w inv hd hC h hr
      simp only [treeC, Bool.and_eq_true] at hC
      obtain ⟨⟨_, hnil⟩, hC'⟩ := hC
      refine wpOp_mono (fun a' w' h' => ⟨h'.1, ih.1 n _ a' w' (inv.set hr) hd hC' ?_ h'.2⟩) h
      by_cases hif : i = f
      · left
        simp only [hif, Bool.or_eq_true, Bool.not_eq_true'] at hnil
        rcases hnil with hnil | hnil
        · simp at hnil
        · cases r <;> simp_all [Rt.isNil]
      · exact .inr (h'.1 hif)
    refine ⟨fun n L a w inv hd hC hS h => ?_, fun n L a w inv hd hC h hr j hj => ?_⟩
    · have hC2 := hC
      simp only [treeC, Bool.and_eq_true, Bool.not_true, Bool.false_or, decide_eq_true_eq] at hC2
      have hrd := hC2.1.1
      obtain ⟨m, rfl⟩ : ∃ m, n = m + 1 := ⟨n - 1, by simp only [Rt.depth] at hd; omega⟩
      refine ⟨fun h0 => (by rw [hrd] at h0; cases h0), fun j hj => ?_⟩
      rw [hrd] at hj
      obtain rfl : j = i := by simpa using hj
      exact hd2 true m L a w inv (by simp only [Rt.depth] at hd; omega) hC h (by rw [hrd]; simp)
    · obtain rfl : j = i := by simpa [Rt.heads] using hj
      exact hd2 false n L a w inv (by simp only [Rt.depth] at hd; omega) hC h (hr j (by simp [Rt.heads]))
  | alt x y ihx ihy =>
    have hd2 : ∀ (top : Bool) (n : Nat) (L : Array Bool) (a : Act) (w : World), CInv ops L → (Rt.alt x y).depth ≤ n + 1 → treeC ops f (.alt x y) top L = true → wpTree P ops Q S f (.alt x y) a w → (∀ i ∈ (Rt.alt x y).heads, i ∈ Region.ready .any ops L) →
        ∀ i ∈ (Rt.alt x y).heads, wpOp P ops Q i (fun a' w' => (i ≠ f → S w') ∧ wpAnyF P ops Q S f n (L.setIfInBounds i true) a' w') a w := by
      intro top n L a w inv hd hC h hr i hi
      simp only [treeC, Bool.and_eq_true] at hC
      simp only [Rt.depth] at hd
      simp only [Rt.heads] at hr hi
      rcases List.mem_append.1 hi with hi | hi
      · exact ihx.2 n L a w inv (by omega) hC.1.2 h.1 (fun k hk => hr k (List.mem_append_left _ hk)) i hi
      · exact ihy.2 n L a w inv (by omega) hC.2 h.2 (fun k hk => hr k (List.mem_append_right _ hk)) i hi
    refine ⟨fun n L a w inv hd hC hS h => ?_, fun n L a w inv hd hC h hr => hd2 false n L a w inv hd hC h hr⟩
    have hC2 := hC
    simp only [treeC, Bool.and_eq_true, Bool.not_true, Bool.false_or, decide_eq_true_eq, Bool.not_eq_true'] at hC2
    obtain ⟨⟨⟨hrd, hne⟩, _⟩, _⟩ := hC2
    have hdp : 0 < (Rt.alt x y).depth := by
      rcases Nat.eq_zero_or_pos (Rt.alt x y).depth with h0 | h0
      · exfalso
        simp only [Rt.depth] at h0
        have hx : ∀ t : Rt, t.depth = 0 → t.heads = [] := by
          intro t
          induction t with
          | nil => intro _; rfl
          | s i r _ => intro h; simp [Rt.depth] at h
          | e i r _ => intro h; simp [Rt.depth] at h
          | alt a b iha ihb => intro h; simp only [Rt.depth] at h; simp [Rt.heads, iha (by omega), ihb (by omega)]
        rw [hx x (by omega), hx y (by omega)] at hne
        simp at hne
      · exact h0
    obtain ⟨m, rfl⟩ : ∃ m, n = m + 1 := ⟨n - 1, by omega⟩
    refine ⟨fun h0 => ?_, fun j hj => ?_⟩
    · rw [hrd] at h0; rw [h0] at hne; simp at hne
    · exact hd2 true m L a w inv hd hC h (fun i hi => by rw [hrd]; exact hi) j (by rw [hrd] at hj; exact hj)
theorem wp_region_tree {id : Nat} {a : Act} {w : World} {l : List Oper} (f : Nat) (t : Rt) (hm : P.follows .mixedOrders = true) (hB : treeB l.toArray f t = true) (hS : S (w.drewN 1))
    (h : wpTree P l.toArray (Only Q) S f t a (w.drewN 1)) : (Code.region id l.toArray true).wp P Q a w := by
  simp only [treeB, Bool.and_eq_true, Nat.ble_eq] at hB
  obtain ⟨⟨hsel, hd⟩, hC⟩ := hB
  refine wp_mono (Q := Only Q) (wp_region_any hm (wpAny_of_F (S := S) (f := f) _ _ _ _ ?_)) ?_
  · exact (wpTree_both (P := P) (Q := Only Q) (S := S) (f := f) hsel (fun _ _ _ h => h.elim) t).1 _ _ _ _ ⟨by simp, fun j oj _ hl => (by rw [getD_replicate_false] at hl; cases hl)⟩ hd hC (.inr hS) h
  · intro e a w he
    cases e <;> first | exact he | exact he.elim
end
def TF (P : Program) (N : Fm) (l : List Oper) (Q : Exit → Act → World → Prop) (S : World → Prop) (f : Nat) (t : Rt) (σ : Store) (w : World) : Prop :=
  ∀ a, Rep N σ a → wpTree P l.toArray (Only Q) S f t a w
def TreeK (P : Program) (l : List Oper) (Q : Exit → Act → World → Prop) (S : World → Prop) (f i : Nat) (t : Rt) (a : Act) (w : World) : Prop := (i ≠ f → S w) ∧ wpTree P l.toArray (Only Q) S f t a w
section
variable {P : Program} {N : Fm} {Q : Exit → Act → World → Prop} {S : World → Prop} {σ : Store} {w : World} {l : List Oper} {f : Nat}
theorem T.regionF (S : World → Prop) {id : Nat} (f : Nat) (t : Rt) (hm : P.follows .mixedOrders = true) (hB : treeB l.toArray f t = true) (hS : S (w.drewN 1)) (h : TF P N l Q S f t σ (w.drewN 1)) : T P N (.region id l.toArray true) Q σ w := by
  unfold T
  exact fun a ha => wp_region_tree (S := S) f t hm hB hS (h a ha)
theorem T.regionE (id : Nat) (f : Nat) (t : Rt) (hm : P.follows .mixedOrders = true) (hB : treeB l.toArray f t = true) (h : TF P N l Q (fun w' => Ext w w') f t σ (w.drewN 1)) : T P N (.region id l.toArray true) Q σ w :=
  T.regionF _ f t hm hB (ext_drewN w 1) h
theorem TF.nil (h : G N .normal Q σ w) : TF P N l Q S f .nil σ w := by
  unfold G at h
  exact fun a ha => h a ha
theorem TF.s {i : Nat} {t : Rt} {d : Nat} {op : Op} {ty : TypeId} {pos : String} {af : Array Edge} {v : Value} (hi : pick1 l i = some ⟨some d, op, ty, pos, af, none⟩)
    (h : ∀ w', S w' → Ev P σ w'.heap ⟨some d, op, ty, pos, af, none⟩ v) (hd : Nat.blt d N.n = true) (k : TF P N l Q S f t ((d, v) :: σ) w) : TF P N l Q S f (.s i t) σ w := fun a ha =>
  ⟨_, v, pick_at hi, .inl ⟨by simp [Region.wanted], fun w' hw' => by have := h w' hw'; unfold Ev at this; exact this _ w' ha.agree rfl⟩, k _ (ha.put hd v)⟩
theorem TF.e {i : Nat} {t : Rt} {o : Oper} (hi : pick1 l i = some o) (h : TL P N .seq l.toArray (Only (Exit.then (TreeK P l Q S f i t) Q)) [o] σ w) : TF P N l Q S f (.e i t) σ w := fun a ha => by
  unfold TL at h
  exact wpOp_of_wpList (pick_at hi) (h a ha)
theorem TF.alt {x y : Rt} (hx : TF P N l Q S f x σ w) (hy : TF P N l Q S f y σ w) : TF P N l Q S f (.alt x y) σ w := fun a ha => ⟨hx a ha, hy a ha⟩
theorem G.tree {i : Nat} {t : Rt} (hif : Nat.beq i f = false) (hS : S w) (h : TF P N l Q S f t σ w) : G N .normal (Exit.then (TreeK P l Q S f i t) Q) σ w := by
  unfold G
  exact fun a ha => ⟨fun _ => hS, h a ha⟩
theorem G.treeEnd {i : Nat} {t : Rt} (hif : Nat.beq i f = true) (h : TF P N l Q S f t σ w) : G N .normal (Exit.then (TreeK P l Q S f i t) Q) σ w := by
  unfold G
  exact fun a ha => ⟨fun hne => absurd (Nat.eq_of_beq_eq_true hif) hne, h a ha⟩
end
attribute [irreducible] TF TreeK
end Go.Eng
namespace Go.Eng
open Go Go.RowKit
section
variable {P : Program} {N : Fm} {Q : Exit → Act → World → Prop} {σ : Store} {w : World} {fn : Func} {R : Ending → World → Prop}
def Held (P : Program) (ty : TypeId) (w : World) (b : Nat) (v : Value) : Prop := (loadVar ty ⟨b, 0, none⟩).run P w = .ok v w
theorem held_agg {ty e : TypeId} [hA : UAgg P ty] {z : Value} {sz b1 : Nat} [hS : USize P ty z sz b1] {b : Nat} {cs : List Value} (hV : Vr w.heap b e cs) (hl : Nat.beq cs.length sz = true) : Held P ty w b (.agg cs.toArray) := by
  obtain ⟨fs, hfs⟩ := hA.out
  obtain ⟨ii, hii, _, hsz, _⟩ := hS.info
  have hlen := Nat.eq_of_beq_eq_true hl
  refine run_loadVar_mid (P := P) w b 0 ty cs _ (fun j u hu => ?_) hfs rfl (by rw [hii]; simp [hsz, hlen])
  rw [Nat.zero_add, cell_of_hcell, hV.cell]
  exact hu
theorem results_c1 {r : Tmp} {ty : TypeId} (h : fn.results = #[.cell r ty]) {tmps : Array Value} {b : Nat} {v : Value} (hr : tmps.getD r undef = .pointer (some ⟨b, 0, none⟩)) (hH : Held P ty w b v) : (results fn tmps).run P w = .ok v w := by
  unfold Held at hH
  simp [results, h]
  simp only [Array.getD_eq_getD_getElem?] at hr
  simp [hr, asAddr, hH]
theorem results_c2 {r s : Tmp} {ty : TypeId} (h : fn.results = #[.cell r ty, .tmp s]) {tmps : Array Value} {b : Nat} {v : Value} (hr : tmps.getD r undef = .pointer (some ⟨b, 0, none⟩)) (hH : Held P ty w b v) : (results fn tmps).run P w = .ok (.tuple #[v, tmps.getD s undef]) w := by
  unfold Held at hH
  simp [results, h]
  simp only [Array.getD_eq_getD_getElem?] at hr
  simp [hr, asAddr, hH]
theorem G.retC1 {n : Nat} {r : Nat} {ty : TypeId} {b : Nat} {v : Value} (hr : fn.results = #[.cell r ty]) (hp : look1 σ r = some (.pointer (some ⟨b, 0, none⟩))) (hH : Held P ty w b v) (h : R (.returned v) w) : G ⟨n, []⟩ .ret (bodyPost P fn R) σ w := by
  unfold G
  exact fun a ha => bodyPost_ret (results_c1 hr (ha.get r _ hp) hH) ha.nodef h
theorem G.retC2 {n : Nat} {r s : Nat} {ty : TypeId} {b : Nat} {v u : Value} (hr : fn.results = #[.cell r ty, .tmp s]) (hp : look1 σ r = some (.pointer (some ⟨b, 0, none⟩))) (hu : look1 σ s = some u) (hH : Held P ty w b v) (h : R (.returned (.tuple #[v, u])) w) : G ⟨n, []⟩ .ret (bodyPost P fn R) σ w := by
  unfold G
  exact fun a ha => bodyPost_ret (results_c2 hr (ha.get r _ hp) hH) ha.nodef (by rw [ha.get s u hu]; exact h)
end
section
variable {P : Program} {σ : Store} {H : Array Obj} {d : Option Tmp} {t : TypeId} {pos : String} {af : Array Edge} {gd : Option (Nat × Bool)}
theorem ev_makeFunc {g : FuncId} {xs : List Operand} {vs : List Value} (hx : looks σ xs = some vs) : Ev P σ H ⟨d, .makeFunc (.func g) #[] xs.toArray, t, pos, af, gd⟩ (.func (.func g) #[] vs.toArray) := by
  unfold Ev
  intro ρ w hρ _
  have e := hρ.list xs vs hx
  simp [execOp, Instr.makeFunc, e]
end
section
variable {P : Program} {N : Fm} {Q : Exit → Act → World → Prop} {σ : Store} {w : World} {ops : Array Oper} {d : Nat} {t : TypeId} {pos : String} {af : Array Edge} {rest : List Oper}
theorem exec_callV {ρ : Operand → Value} {f : FuncId} {x : Operand} {xs : List Operand} {tys : Array TypeId} {vs cap : List Value} {dd : Option Tmp} {gd : Option (Nat × Bool)} (hρ : Agree σ ρ) (hf : look σ x = some (.func (.func f) #[] cap.toArray)) (hx : looks σ xs = some vs) (hfn : IsFn P f) (w : World) :
    (execOp ρ ⟨dd, .call { callee := .value x, args := xs.toArray, argTypes := tys }, t, pos, af, gd⟩).run P w = .ok (.enter f (vs ++ cap).toArray) w := by
  have e := hρ.list xs vs hx
  have ef := hρ x _ hf
  simp [execOp, resolve, ef, Deferred.ofValue, invoke, e, run_callFunc_enter hfn]
theorem TL.callV {f : FuncId} {x : Operand} {xs : List Operand} {tys : Array TypeId} {vs cap : List Value} (hfn : IsFn P f) (hf : look σ x = some (.func (.func f) #[] cap.toArray)) (hx : looks σ xs = some vs) (hd : Nat.blt d N.n = true)
    (k : Cl P f (vs ++ cap).toArray w (Back P N ops Q rest d σ)) :
    TL P N .seq ops Q (⟨some d, .call { callee := .value x, args := xs.toArray, argTypes := tys }, t, pos, af, none⟩ :: rest) σ w := by
  unfold TL
  intro a ha
  refine wpList_plain rfl fun K hK => ?_
  unfold Oper.wp
  rw [exec_callV ha.agree hf hx hfn]
  refine Calls.mono k.out ?_
  intro e w' hb
  unfold Back at hb
  obtain ⟨v, rfl, hk⟩ := hb
  unfold TL at hk
  exact hK _ _ (hk _ (ha.put hd v))
theorem TL.storeS {x y : Operand} {ty e : TypeId} {z0 : Value} {b1 : Nat} [hS : USize P ty z0 1 b1] {b k : Nat} {l : List (SA Nat)} {A : Option Addr} {n c : Nat} (u : SA Nat) (hu : u.A = A ∧ u.n = n ∧ u.c = c)
    (hx : look σ x = some (.pointer (elemA (some ⟨b, 0, none⟩) k))) (hy : look σ y = some (.slice A n c)) (hB : Bk sav w.heap b e l) (hk : k < l.length)
    (K : ∀ w', Bk sav w'.heap b e (l.set k u) → Upd b w w' → TL P N .seq ops Q rest σ w') :
    TL P N .seq ops Q (⟨none, .store ty x y, t, pos, af, none⟩ :: rest) σ w := by
  obtain ⟨rfl, rfl, rfl⟩ := hu
  have := TL.store (P := P) (N := N) (ops := ops) (Q := Q) (rest := rest) (ty := ty) (t := t) (pos := pos) (af := af) (f := sav) (o := 0) (k := k) (u := u) rfl rfl (by rw [hx]; simp [elemA, add_mk]) hy hB (by omega)
  rw [Nat.zero_add] at this
  exact this K
end
end Go.Eng
namespace Go.Eng
open Go Go.RowKit
section
variable {P : Program} {N : Fm} {Q : Exit → Act → World → Prop} {σ : Store} {w : World} {ops : Array Oper} {d : Nat} {t : TypeId} {pos : String} {af : Array Edge} {rest : List Oper} {l : List Oper}
theorem T.regionX (id : Nat) (f : Nat) (t : Rt) (hm : P.follows .mixedOrders = true) (hB : treeB l.toArray f t = true) (h : ∀ w1 : World, w1.heap.size = w.heap.size → Ext w w1 → TF P N l Q (fun w' => Ext w w') f t σ w1) : T P N (.region id l.toArray true) Q σ w :=
  T.regionE id f t hm hB (h (w.drewN 1) (by simp) (ext_drewN w 1))
theorem TL.nilX (h : ∀ w1 : World, w1.heap.size = w.heap.size → Ext w w1 → G N .normal Q σ w1) : TL P N .quiet ops Q [] σ w := TL.nilQ fun n => h _ (by simp) (ext_drewN w n)
theorem Pure.clX {f : FuncId} {args : Array Value} {v : Value} (h : Pure P f args w.heap v) : Cl P f args w fun e w' => e = .returned v ∧ w'.heap.size = w.heap.size ∧ Ext w w' := h.cl.mono fun e w' ⟨he, n, hw⟩ => ⟨he, by rw [hw]; simp, by rw [hw]; exact ext_drewN w n⟩
theorem box_lo {w0 w1 : World} {b : Nat} (hE : Ext w0 w1) (e : b = w1.heap.size) : w0.heap.size ≤ b := by have := hE.size; omega
theorem Vr.updX {w w' : World} {b g : Nat} {t : TypeId} {cs : List Value} (hu : Upd g w w') (h : Vr w.heap b t cs) (hne : b ≠ g) : Vr w'.heap b t cs := h.upd hu hne
theorem ext_upd {w0 w1 w2 : World} {b : Nat} (hu : Upd b w1 w2) (hE : Ext w0 w1) (hb : w0.heap.size ≤ b) : Ext w0 w2 := Ext.upd hE hu hb
theorem TL.storeVX {x y : Operand} {ty e : TypeId} {z : Value} {sz b1 : Nat} [hS : USize P ty z sz b1] {b o : Nat} {cs r vs : List Value} (hx : look σ x = some (.pointer (some ⟨b, o, none⟩))) (hy : look σ y = some (.agg vs.toArray))
    (hsz : Nat.beq vs.length sz = true) (h1 : vs.all (·.oneCell') = true) (h : Vr w.heap b e cs ∧ putO cs o vs = some r)
    (K : ∀ w', Vr w'.heap b e r → Upd b w w' → w'.heap.size = w.heap.size → TL P N .seq ops Q rest σ w') : TL P N .seq ops Q (⟨none, .store ty x y, t, pos, af, none⟩ :: rest) σ w :=
  TL.storeVA hx hy hsz h1 h.1 h.2 fun w' h1 h2 => K w' h1 h2 h2.size
theorem TL.storeX {x y : Operand} {ty e : TypeId} {z : Value} {b1 : Nat} [hS : USize P ty z 1 b1] {b o : Nat} {cs r : List Value} {v : Value} (hx : look σ x = some (.pointer (some ⟨b, o, none⟩))) (hy : look σ y = some v) (hvs : v.cells.toList = [v]) (h1 : v.oneCell' = true) (h : Vr w.heap b e cs ∧ putO cs o [v] = some r)
    (K : ∀ w', Vr w'.heap b e r → Upd b w w' → w'.heap.size = w.heap.size → TL P N .seq ops Q rest σ w') : TL P N .seq ops Q (⟨none, .store ty x y, t, pos, af, none⟩ :: rest) σ w :=
  TL.storeV hx hy hvs h1 h.1 h.2 fun w' h1 h2 => K w' h1 h2 h2.size
end
section
variable {P : Program} {σ : Store} {H : Array Obj} {d : Option Tmp} {t : TypeId} {pos : String} {af : Array Edge} {gd : Option (Nat × Bool)}
theorem ev_loadVX {x : Operand} {ty e : TypeId} [hO : UOne P ty] {b o : Nat} {cs : List Value} {v : Value} (hx : look σ x = some (.pointer (some ⟨b, o, none⟩))) (h : Vr H b e cs ∧ nthV cs o = some v) : Ev P σ H ⟨d, .load ty x, t, pos, af, gd⟩ v := ev_loadV hx h.1 h.2
theorem ev_loadVAX {x : Operand} {ty e : TypeId} [hA : UAgg P ty] {z : Value} {sz b1 : Nat} [hS : USize P ty z sz b1] {b o : Nat} {cs cs' : List Value} (hx : look σ x = some (.pointer (some ⟨b, o, none⟩))) (h : Vr H b e cs ∧ subV cs o sz = some cs') :
    Ev P σ H ⟨d, .load ty x, t, pos, af, gd⟩ (.agg cs'.toArray) := ev_loadVA hx h.1 h.2
end
theorem putV_of_O : ∀ (cs : List Value) (off : Nat) (vs r : List Value), putO cs off vs = some r → putV cs off vs = r
  | cs, off, [], r, h => by simp [putO] at h; rw [putV_nil, h]
  | [], off, v :: vs, r, h => by simp [putO] at h
  | c :: cs, 0, v :: vs, r, h => by
    simp only [putO] at h
    cases hq : putO cs 0 vs with
    | none => rw [hq] at h; simp at h
    | some l => rw [hq] at h; simp at h; subst h; simp [putV, putV_of_O cs 0 vs l hq]
  | c :: cs, off + 1, v :: vs, r, h => by
    simp only [putO] at h
    cases hq : putO cs off (v :: vs) with
    | none => rw [hq] at h; simp at h
    | some l => rw [hq] at h; simp at h; subst h; simp [putV, putV_of_O cs off (v :: vs) l hq]
def nthP : List (Nat × Nat) → Nat → Option (Nat × Nat)
  | [], _ => none
  | p :: _, 0 => some p
  | _ :: l, i + 1 => nthP l i
theorem nthP_eq (l : List (Nat × Nat)) (i : Nat) : nthP l i = l[i]? := by
  induction l generalizing i with
  | nil => rfl
  | cons v l ih => cases i <;> simp [nthP, ih]
def fillO (pl : List (Nat × Nat)) : List Value → List (Nat × Value) → Option (List Value)
  | cs, [] => some cs
  | cs, (i, v) :: rest => match nthP pl i with
    | none => none
    | some (off, size) => match Nat.beq v.cells.toList.length size && Nat.ble (off + size) cs.length with
      | true => match putO cs off v.cells.toList with
        | some cs' => fillO pl cs' rest
        | none => none
      | false => none
theorem fillO_eq {pl : List (Nat × Nat)} : ∀ (parts : List (Nat × Value)) (cs r : List Value), fillO pl cs parts = some r → fillV pl cs parts = some r
  | [], cs, r, h => by simpa [fillO, fillV] using h
  | (i, v) :: rest, cs, r, h => by
    simp only [fillO, nthP_eq] at h
    cases hp : pl[i]? with
    | none => rw [hp] at h; simp at h
    | some os =>
      obtain ⟨off, size⟩ := os
      rw [hp] at h
      simp only at h
      cases hb : (Nat.beq v.cells.toList.length size && Nat.ble (off + size) cs.length) with
      | false => rw [hb] at h; simp at h
      | true =>
        rw [hb] at h
        simp only at h
        cases hq : putO cs off v.cells.toList with
        | none => rw [hq] at h; simp at h
        | some cs' =>
          rw [hq] at h
          simp only at h
          simp only [fillV, hp]
          rw [hb, putV_of_O _ _ _ _ hq]
          simpa using fillO_eq rest cs' r h
section
variable {P : Program} {σ : Store} {H : Array Obj} {d : Option Tmp} {t : TypeId} {pos : String} {af : Array Edge} {gd : Option (Nat × Bool)}
theorem ev_buildX {ty : TypeId} {pl : List (Nat × Nat)} [hU : UStruct P ty pl] {z : List Value} {sz b1 : Nat} [hS : USize P ty (.agg z.toArray) sz b1] {parts : List (Nat × Operand)} {vs : List (Nat × Value)} {r : List Value}
    (hp : looksP σ parts = some vs) (hr : fillO pl z vs = some r) : Ev P σ H ⟨d, .build ty parts.toArray, t, pos, af, gd⟩ (.agg r.toArray) := ev_build hp (fillO_eq _ _ _ hr)
end
theorem Sm.upd {α : Type} {k : Nat} {f : α → List Value} {w w' : World} {B n c b : Nat} {A : Option Addr} {l : List α} (hu : Upd b w w') (h : Sm k f w.heap B A n c l) (hb : B ≤ b) : Sm k f w'.heap B A n c l := h.below (hu.below hb)
def noU64 : Value → Bool
  | .int .u64 _ => false
  | _ => true
theorem off_var {α : Type} {f : α → Value} (hf : ∀ x, noU64 (f x) = false) {H : Array Obj} {B n c b : Nat} {A : Option Addr} {l : List α} {t : TypeId} {cs : List Value} (h : Sl f H B A n c l) (hV : Vr H b t cs) (hc : cs.all noU64 = true) : n = 0 ∨ ∀ a, A = some a → a.block ≠ b := by
  rcases h.mem with h0 | ⟨b', o, rfl, _, hm⟩
  · exact .inl h0
  · rcases Nat.eq_zero_or_pos n with h0 | h0
    · exact .inl h0
    · refine .inr fun a ha hab => ?_
      cases ha
      simp only at hab
      subst hab
      have hl : 0 < l.length := by have := h.len; omega
      have h1 := hm 0 l[0] (List.getElem?_eq_getElem hl)
      rw [hV.cell] at h1
      have h2 := List.all_eq_true.1 hc _ (List.mem_of_getElem? h1)
      rw [hf] at h2
      cases h2
theorem sl_updV {w w' : World} {B n c b : Nat} {A : Option Addr} {l : List Nat} {t : TypeId} {cs : List Value} (hu : Upd b w w') (hV : Vr w.heap b t cs) (hc : cs.all noU64 = true) (h : Sl u64v w.heap B A n c l) : Sl u64v w'.heap B A n c l := by
  have ho := off_var (fun x => rfl) h hV hc
  refine ⟨h.len, h.cap, ?_⟩
  rcases h.mem with h0 | ⟨b', o, e, hlt, hm⟩
  · exact .inl h0
  · rcases ho with h0 | ho
    · exact .inl h0
    · refine .inr ⟨b', o, e, hlt, fun j x hx => ?_⟩
      have hne : b' ≠ b := ho _ e
      have := hm j x hx
      unfold hcell at this ⊢
      rw [hu.block b' hne]
      exact this
structure IV where
  neg : Bool
  m : SA Nat
instance : Inhabited IV := ⟨⟨false, default⟩⟩
def ivc (x : IV) : List Value := [.bool x.neg, .slice x.m.A x.m.n x.m.c]
structure MV where
  r : Int
  c : Int
  A : Option Addr
  n : Nat
  k : Nat
  l : List IV
instance : Inhabited MV := ⟨⟨0, 0, none, 0, 0, []⟩⟩
def mvc (x : MV) : List Value := [.int .i64 x.r, .int .i64 x.c, .slice x.A x.n x.k]
end Go.Eng
namespace Go.Eng
open Go Go.RowKit
theorem flatMap_len {α : Type} {f : α → List Value} {k : Nat} {l : List α} (hw : ∀ x ∈ l, (f x).length = k) : (l.flatMap f).length = l.length * k := by
  induction l with
  | nil => simp
  | cons x l ih =>
    rw [List.flatMap_cons, List.length_append, hw x (List.mem_cons_self ..), ih (fun y hy => hw y (List.mem_cons_of_mem _ hy)), List.length_cons, Nat.add_mul]
    omega
theorem flatMap_get {α : Type} {f : α → List Value} {k : Nat} : ∀ {l : List α} (hw : ∀ x ∈ l, (f x).length = k) (j q : Nat) (x : α), l[j]? = some x → q < k → (l.flatMap f)[j * k + q]? = (f x)[q]?
  | [], hw, j, q, x, h, hq => by simp at h
  | y :: l, hw, 0, q, x, h, hq => by
    simp at h
    subst h
    rw [List.flatMap_cons, Nat.zero_mul, Nat.zero_add, List.getElem?_append_left (by rw [hw y (List.mem_cons_self ..)]; exact hq)]
  | y :: l, hw, j + 1, q, x, h, hq => by
    rw [List.getElem?_cons_succ] at h
    have hy := hw y (List.mem_cons_self ..)
    rw [List.flatMap_cons, List.getElem?_append_right (by rw [hy, Nat.add_mul]; omega), hy, show (j + 1) * k + q - k = j * k + q by rw [Nat.add_mul]; omega]
    exact flatMap_get (fun z hz => hw z (List.mem_cons_of_mem _ hz)) j q x h hq
theorem vr_sm {α : Type} {f : α → List Value} {k : Nat} {H : Array Obj} {b B n c : Nat} {t : TypeId} {l : List α} {zs : List Value} (hk : 0 < k) (hw : ∀ x ∈ l, (f x).length = k) (hV : Vr H b t (l.flatMap f ++ zs)) (hn : l.length = n) (hc : n ≤ c) (hb : b < B) : Sm k f H B (some ⟨b, 0, none⟩) n c l := by
  refine ⟨hn, hc, hk, hw, .inr ⟨b, 0, rfl, hb, fun j x hx q v hv => ?_⟩⟩
  have hq : q < k := by have := (List.getElem?_eq_some_iff.1 hv).1; rwa [hw x (List.mem_of_getElem? hx)] at this
  have hj := (List.getElem?_eq_some_iff.1 hx).1
  rw [Nat.zero_add, hV.cell, List.getElem?_append_left, flatMap_get hw j q x hx hq, hv]
  rw [flatMap_len hw]
  have : (j + 1) * k ≤ l.length * k := Nat.mul_le_mul_right _ hj
  rw [Nat.add_mul] at this
  omega
section
variable {P : Program} {N : Fm} {Q : Exit → Act → World → Prop} {σ : Store} {w : World} {ops : Array Oper} {d : Nat} {t : TypeId} {pos : String} {af : Array Edge} {rest : List Oper}
theorem TL.makeX {x y : Operand} {ty e : TypeId} [hT : USlice P ty e] {z : List Value} {sz b1 : Nat} [hS : USize P e (.agg z.toArray) sz b1] {k k' : IntKind} {z1 z2 : Int} {n c : Nat} [e1 : IsN z1 n] [e2 : IsN z2 c]
    (hx : look σ x = some (.int k z1)) (hy : look σ y = some (.int k' z2)) (hd : Nat.blt d N.n = true) (hn : n ≤ c) (hc : b1 * c ≤ 281474976710656 ∧ c ≤ 9223372036854775807) (hz : z.all noU64 = true) (hzl : Nat.beq z.length sz = true) (hz0 : Nat.blt 0 sz = true)
    (K : ∀ w' b zs, b = w.heap.size → zs.length = c * sz → zs.all noU64 = true → Vr w'.heap b e zs → Ext w w' → w'.heap.size = w.heap.size + 1 → TL P N .seq ops Q rest ((d, .slice (some ⟨b, 0, none⟩) n c) :: σ) w') :
    TL P N .seq ops Q (⟨some d, .makeSlice ty x y, t, pos, af, none⟩ :: rest) σ w := by
  obtain rfl := e1.out
  obtain rfl := e2.out
  obtain ⟨i, hi, hz0', hsz, hby⟩ := hS.info
  have hb : (i.bytes : Int) * (c : Int) ≤ 281474976710656 := by
    have h : ((i.bytes * c : Nat) : Int) ≤ 281474976710656 := by rw [hby]; omega
    rwa [Int.natCast_mul] at h
  have hr := fun (w : World) => run_make (P := P) w ty e i (.agg z.toArray) hT.out hi hz0' k k' (n : Int) (c : Int) (by omega) (by omega) hb (by omega)
  simp only [Int.toNat_natCast, hsz] at hr
  have hzl' := Nat.eq_of_beq_eq_true hzl
  have hsz0 : 0 < sz := by simpa [Nat.blt_eq] using hz0
  refine TL.op (w' := w.alloc (.cells (madeCells z.toArray (c * sz)) e)) (fun ρ hρ => ?_) hd (K _ _ (madeCells z.toArray (c * sz)).toList rfl (by simp [madeCells]) ?_ ?_ (ext_alloc _ _) (size_alloc _ _))
  · simp [execOp, hρ x _ hx, hρ y _ hy]
    have := hr w
    simp only [Value.cells] at this
    simp [this]
  · rw [List.all_eq_true]
    intro v hv
    simp only [madeCells, Array.toList_map, List.mem_map] at hv
    obtain ⟨q, _, rfl⟩ := hv
    have hlt : q % z.toArray.size < z.length := by simp only [List.size_toArray]; exact Nat.mod_lt _ (by omega)
    have hlt2 : q % z.length < z.length := by simpa using hlt
    have : z.toArray[q % z.toArray.size]! = z[q % z.toArray.size] := by simp [List.getElem?_eq_getElem hlt2]
    rw [this]
    exact List.all_eq_true.1 hz _ (List.getElem_mem hlt)
  · unfold Vr
    rw [heap_alloc]
theorem TL.appendX {α : Type} {f : α → List Value} {x y : Operand} {ty e : TypeId} [hT : USlice P ty e] {z : Value} {k b1 : Nat} [hS : USize P e z k b1] (h1 : ∀ u, (f u).all (·.oneCell') = true) {b n c B c' : Nat} {A' : Option Addr} {l : List α} {u : α} {zs : List Value}
    (hx : look σ x = some (.slice (some ⟨b, 0, none⟩) n c)) (hy : look σ y = some (.slice A' 1 c')) (hd : Nat.blt d N.n = true) (hs : Sm k f w.heap B A' 1 c' [u]) (hV : Vr w.heap b e (l.flatMap f ++ zs)) (hw : ∀ x ∈ l, (f x).length = k) (hn : l.length = n) (hc : n + 1 ≤ c) (hzs : zs.length = (c - n) * k)
    (K : ∀ w', Vr w'.heap b e ((l ++ [u]).flatMap f ++ zs.drop k) → Upd b w w' → w'.heap.size = w.heap.size → TL P N .seq ops Q rest ((d, .slice (some ⟨b, 0, none⟩) (n + 1) c) :: σ) w') :
    TL P N .seq ops Q (⟨some d, .call { callee := .builtin .append, args := #[x, y], argTypes := #[ty, ty] }, t, pos, af, none⟩ :: rest) σ w := by
  obtain ⟨i, hi, hz0, hsz, hby⟩ := hS.info
  have hu := hs.wid u (by simp)
  have hl : (l.flatMap f).length = n * k := by rw [flatMap_len hw, hn]
  have hk := hs.pos
  have hck : k ≤ (c - n) * k := Nat.le_mul_of_pos_left _ (by omega)
  rcases hs.mem with h | ⟨b', o, rfl, _, hm⟩
  · omega
  have hnews : ∀ j v, (f u)[j]? = some v → w.cell? ((⟨b', o, none⟩ : Addr).add j) = some v := fun j v hv => by
    have := hm 0 u rfl j v hv
    rw [Nat.zero_mul, Nat.zero_add] at this
    rw [add_mk, cell_of_hcell]; exact this
  have hr := run_append_room (P := P) w ty t e i hT.out hi b n c (l.flatMap f ++ zs).toArray hV ⟨b', o, none⟩ 1 c' (f u) (by rw [hu, hsz, Nat.one_mul]) hnews (fun v hv => List.all_eq_true.1 (h1 u) v hv) hc (by simp [hl, hsz, hu, hzs]; exact hck)
  refine TL.op (w' := w.setRow b ((l.flatMap f) ++ f u ++ zs.drop k).toArray) (fun ρ hρ => ?_) hd (K _ ?_ (upd_setRow _ _ _) (by simp [World.setRow]))
  · simp only [execOp, resolve, invoke, builtin, Sem.run_bind, Sem.run_pure, Result.andThen_ok, List.map_toArray, List.map_cons, List.map_nil, hρ x _ hx, hρ y _ hy]
    rw [hr]
    simp only [Result.andThen_ok, Sem.run_pure, hsz]
    have e1 : List.take (n * k) (l.flatMap f ++ zs) = l.flatMap f := by rw [← hl, List.take_left]
    have e2 : List.drop (n * k + (f u).length) (l.flatMap f ++ zs) = zs.drop k := by rw [← hl, hu, List.drop_append, List.drop_of_length_le (by omega)]; simp
    rw [e1, e2]
  · unfold Vr at hV ⊢
    rw [setRow_heap w b _ _ e _ hV, List.flatMap_append]
    simp
theorem TL.buildX1 {α : Type} {f : α → List Value} {x : Operand} {ty e : TypeId} [hT : USlice P ty e] {z : List Value} {sz b1 : Nat} [hS : USize P e (.agg z.toArray) sz b1] {u : α} {vs : List Value} (hx : look σ x = some (.agg vs.toArray)) (hvs : f u = vs) (hd : Nat.blt d N.n = true) (hl : Nat.beq vs.length sz = true) (hzl : Nat.beq z.length sz = true) (h0 : Nat.blt 0 sz = true) (h16 : Nat.ble sz 1000 = true)
    (K : ∀ w' b, b = w.heap.size → Vr w'.heap b e (f u) → Sm sz f w'.heap w'.heap.size (some ⟨b, 0, none⟩) 1 1 [u] → Ext w w' → w'.heap.size = w.heap.size + 1 → TL P N .seq ops Q rest ((d, .slice (some ⟨b, 0, none⟩) 1 1) :: σ) w') :
    TL P N .seq ops Q (⟨some d, .buildSlice ty 1 #[(0, x)], t, pos, af, none⟩ :: rest) σ w := by
  subst hvs
  obtain ⟨i, hi, hz0, hsz, hby⟩ := hS.info
  have hlen := Nat.eq_of_beq_eq_true hl
  have hzlen := Nat.eq_of_beq_eq_true hzl
  have hpos : 0 < sz := by simpa [Nat.blt_eq] using h0
  have h16' : sz ≤ 1000 := by simpa [Nat.ble_eq] using h16
  have hm : ((Array.range (1 * i.size)).map (fun q => z.toArray[q % z.toArray.size]!)) = z.toArray := by
    apply Array.ext
    · simp [hsz, hzlen]
    · intro q h1 h2
      simp at h2
      simp [Nat.mod_eq_of_lt h2, getElem!_pos, h2]
  have hfill : Instr.fill (fun j => some (j * i.size, i.size)) z.toArray [(0, Value.agg (f u).toArray)] = some (f u).toArray := by
    have e2 : Array.foldl (fun (cs : Array Value) (p : Value × Nat) => cs.setIfInBounds (0 * i.size + p.2) p.1) z.toArray (f u).toArray.zipIdx = (f u).toArray := by
      apply Array.ext'
      have := foldl_put (f u) 0 0 z.toArray
      rw [Nat.zero_mul, ← Array.foldl_toList, Array.toList_zipIdx]
      simp only [Nat.add_zero] at this
      rw [this]
      apply List.ext_getElem?
      intro j
      rw [putV_get]
      simp only [Nat.zero_le, true_and, Nat.zero_add, Nat.sub_zero]
      split
      · rfl
      · rename_i hj
        have hge : sz ≤ j := by simp only [hlen, List.toList_toArray, hzlen] at hj; omega
        rw [List.getElem?_eq_none (by simp [hzlen]; omega), List.getElem?_eq_none (by omega)]
    have e3 : (decide ((Value.agg (f u).toArray).cells.size ≠ i.size) || decide (0 * i.size + (Value.agg (f u).toArray).cells.size > z.toArray.size)) = false := by simp [Value.cells, hsz, hlen, hzlen]
    unfold Instr.fill
    simp only [e3]
    unfold Instr.fill
    exact congrArg some e2
  have hrun : (Instr.buildSlice ty 1 #[(0, Value.agg (f u).toArray)]).run P w = .ok (.slice (some ⟨w.heap.size, 0, none⟩) 1 1) (w.alloc (.cells (f u).toArray e)) := by
    refine run_buildSlice w ty e 1 _ (f u).toArray i (.agg z.toArray) hT.out hi hz0 (by rw [hsz]; omega) (by rw [hsz]; omega) ?_
    simp only [Value.cells]
    rw [hm]
    exact hfill
  refine TL.op (w' := w.alloc (.cells (f u).toArray e)) (fun ρ hρ => ?_) hd (K _ _ rfl (by unfold Vr; rw [heap_alloc]) ?_ (ext_alloc _ _) (size_alloc _ _))
  · simp [execOp, hρ x _ hx, hrun]
  · have hV : Vr (w.alloc (.cells (f u).toArray e)).heap w.heap.size e ([u].flatMap f ++ []) := by unfold Vr; rw [heap_alloc]; simp
    exact vr_sm hpos (fun x hx => by rw [List.mem_singleton] at hx; subst hx; exact hlen) hV rfl (Nat.le_refl _) (by simp)
end
section
variable {P : Program} {N : Fm} {Q : Exit → Act → World → Prop} {S : World → Prop} {σ : Store} {w : World} {l : List Oper} {f : Nat}
theorem TF.sg {i : Nat} {t : Rt} {d : Nat} {op : Op} {ty : TypeId} {pos : String} {af : Array Edge} {v : Value} {j s : Nat} {want b : Bool} (hi : pick1 l i = some ⟨some d, op, ty, pos, af, some (j, want)⟩) (hj : (pick1 l j).bind (·.dst) = some s) (hb : look1 σ s = some (.bool b)) (heq : (b == want) = true)
    (h : ∀ w', S w' → Ev P σ w'.heap ⟨some d, op, ty, pos, af, some (j, want)⟩ v) (hd : Nat.blt d N.n = true) (k : TF P N l Q S f t ((d, v) :: σ) w) : TF P N l Q S f (.s i t) σ w := by
  unfold TF at *
  intro a ha
  refine ⟨_, v, pick_at hi, .inl ⟨?_, fun w' hw' => by have := h w' hw'; unfold Ev at this; exact this _ w' ha.agree rfl⟩, k _ (ha.put hd v)⟩
  have hj' : (l.toArray[j]?).bind (·.dst) = some s := by rw [List.getElem?_toArray, ← pick1_eq]; exact hj
  simp only [Region.wanted, yielded_of ha hj' hb]
  cases b <;> cases want <;> simp_all
end
end Go.Eng
namespace Go.Eng
open Go Go.RowKit
section
variable {P : Program} {N : Fm} {Q : Exit → Act → World → Prop} {σ : Store} {w : World} {ops : Array Oper} {d : Nat} {t : TypeId} {pos : String} {af : Array Edge} {rest : List Oper}
theorem put_front (a b z : List Value) (h : a.length = z.length) : putV (z ++ b) 0 a = a ++ b := by
  apply List.ext_getElem?
  intro j
  rw [putV_get]
  simp only [Nat.zero_le, true_and, Nat.zero_add, Nat.sub_zero, List.length_append]
  split
  · rename_i hj; rw [List.getElem?_append_left hj.1]
  · rename_i hj
    rcases Nat.lt_or_ge j a.length with h1 | h1
    · omega
    · rw [List.getElem?_append_right (by omega), List.getElem?_append_right h1, h]
theorem put_back (a b z : List Value) (h : b.length = z.length) : putV (a ++ z) a.length b = a ++ b := by
  apply List.ext_getElem?
  intro j
  rw [putV_get]
  simp only [List.length_append]
  split
  · rename_i hj; rw [List.getElem?_append_right hj.1]
  · rename_i hj
    rcases Nat.lt_or_ge j a.length with h1 | h1
    · rw [List.getElem?_append_left h1, List.getElem?_append_left h1]
    · rw [List.getElem?_eq_none (by simp; omega), List.getElem?_eq_none (by simp; omega)]
theorem TL.buildX2 {α : Type} {f : α → List Value} {x y : Operand} {ty e : TypeId} [hT : USlice P ty e] {z : List Value} {sz b1 : Nat} [hS : USize P e (.agg z.toArray) sz b1] {u v : α} {vs vs' : List Value} (hx : look σ x = some (.agg vs.toArray)) (hy : look σ y = some (.agg vs'.toArray)) (hvs : f u = vs) (hvs' : f v = vs') (hd : Nat.blt d N.n = true)
    (hl : Nat.beq vs.length sz = true) (hl' : Nat.beq vs'.length sz = true) (hzl : Nat.beq z.length sz = true) (h0 : Nat.blt 0 sz = true) (h16 : Nat.ble sz 1000 = true)
    (K : ∀ w' b, b = w.heap.size → Sm sz f w'.heap w'.heap.size (some ⟨b, 0, none⟩) 2 2 [u, v] → Ext w w' → w'.heap.size = w.heap.size + 1 → TL P N .seq ops Q rest ((d, .slice (some ⟨b, 0, none⟩) 2 2) :: σ) w') :
    TL P N .seq ops Q (⟨some d, .buildSlice ty 2 #[(0, x), (1, y)], t, pos, af, none⟩ :: rest) σ w := by
  subst hvs hvs'
  obtain ⟨i, hi, hz0, hsz, hby⟩ := hS.info
  have hlen := Nat.eq_of_beq_eq_true hl
  have hlen' := Nat.eq_of_beq_eq_true hl'
  have hzlen := Nat.eq_of_beq_eq_true hzl
  have hpos : 0 < sz := by simpa [Nat.blt_eq] using h0
  have h16' : sz ≤ 1000 := by simpa [Nat.ble_eq] using h16
  have hm : ((Array.range (2 * i.size)).map (fun q => z.toArray[q % z.toArray.size]!)) = (z ++ z).toArray := by
    apply Array.ext
    · simp [hsz, hzlen]; omega
    · intro q h1 h2
      simp [hzlen] at h2
      have hmod : q % sz < sz := Nat.mod_lt _ hpos
      simp only [Array.getElem_map, Array.getElem_range, List.size_toArray, hzlen, List.getElem_toArray]
      rcases Nat.lt_or_ge q sz with hq | hq
      · rw [List.getElem_append_left (by omega)]
        simp [Nat.mod_eq_of_lt hq, hzlen, hq]
      · rw [List.getElem_append_right (by omega)]
        have e1 : q % sz = q - z.length := by rw [hzlen, Nat.mod_eq_sub_mod hq, Nat.mod_eq_of_lt (by omega)]
        have h3 : q - z.length < z.length := by omega
        simp [e1, List.getElem?_eq_getElem h3]
  have hfill : Instr.fill (fun j => some (j * i.size, i.size)) (z ++ z).toArray [(0, Value.agg (f u).toArray), (1, Value.agg (f v).toArray)] = some (f u ++ f v).toArray := by
    have p1 : Array.foldl (fun (cs : Array Value) (p : Value × Nat) => cs.setIfInBounds (0 * i.size + p.2) p.1) (z ++ z).toArray (f u).toArray.zipIdx = (f u ++ z).toArray := by
      apply Array.ext'
      have := foldl_put (f u) 0 0 (z ++ z).toArray
      rw [Nat.zero_mul, ← Array.foldl_toList, Array.toList_zipIdx]
      simp only [Nat.add_zero] at this
      rw [this]
      exact put_front _ _ _ (by omega)
    have p2 : Array.foldl (fun (cs : Array Value) (p : Value × Nat) => cs.setIfInBounds (1 * i.size + p.2) p.1) (f u ++ z).toArray (f v).toArray.zipIdx = (f u ++ f v).toArray := by
      apply Array.ext'
      have := foldl_put (f v) 0 sz (f u ++ z).toArray
      rw [hsz, Nat.one_mul, ← Array.foldl_toList, Array.toList_zipIdx]
      simp only [Nat.add_zero] at this
      rw [this, ← hlen]
      exact put_back _ _ _ (by omega)
    have e3 : (decide ((Value.agg (f u).toArray).cells.size ≠ i.size) || decide (0 * i.size + (Value.agg (f u).toArray).cells.size > (z ++ z).toArray.size)) = false := by simp [Value.cells, hsz, hlen, hzlen]
    have e4 : (decide ((Value.agg (f v).toArray).cells.size ≠ i.size) || decide (1 * i.size + (Value.agg (f v).toArray).cells.size > (f u ++ z).toArray.size)) = false := by simp [Value.cells, hsz, hlen, hlen', hzlen]
    unfold Instr.fill
    simp only [e3]
    rw [show (Value.agg (f u).toArray).cells = (f u).toArray from rfl, p1]
    unfold Instr.fill
    simp only [e4]
    rw [show (Value.agg (f v).toArray).cells = (f v).toArray from rfl, p2]
    unfold Instr.fill
    rfl
  have hrun : (Instr.buildSlice ty 2 #[(0, Value.agg (f u).toArray), (1, Value.agg (f v).toArray)]).run P w = .ok (.slice (some ⟨w.heap.size, 0, none⟩) 2 2) (w.alloc (.cells (f u ++ f v).toArray e)) := by
    refine run_buildSlice w ty e 2 _ (f u ++ f v).toArray i (.agg z.toArray) hT.out hi hz0 (by rw [hsz]; omega) (by rw [hsz]; omega) ?_
    simp only [Value.cells]
    rw [hm]
    exact hfill
  refine TL.op (w' := w.alloc (.cells (f u ++ f v).toArray e)) (fun ρ hρ => ?_) hd (K _ _ rfl ?_ (ext_alloc _ _) (size_alloc _ _))
  · simp [execOp, hρ x _ hx, hρ y _ hy, hrun]
  · have hV : Vr (w.alloc (.cells (f u ++ f v).toArray e)).heap w.heap.size e ([u, v].flatMap f ++ []) := by unfold Vr; rw [heap_alloc]; simp
    refine vr_sm hpos (fun x hx => ?_) hV rfl (Nat.le_refl _) (by simp)
    simp only [List.mem_cons, List.not_mem_nil, or_false] at hx
    rcases hx with rfl | rfl <;> assumption
end
end Go.Eng
namespace Go.Eng
open Go Go.RowKit
structure Exb (b : Nat) (w w' : World) : Prop where
  size : w.heap.size ≤ w'.heap.size
  block : ∀ k, k < w.heap.size → k ≠ b → w'.heap[k]? = w.heap[k]?
theorem Exb.refl (b : Nat) (w : World) : Exb b w w := ⟨Nat.le_refl _, fun _ _ _ => rfl⟩
theorem Exb.ext {b : Nat} {w w1 w2 : World} (h : Exb b w w1) (hE : Ext w1 w2) : Exb b w w2 := ⟨Nat.le_trans h.size hE.size, fun k hk hne => (hE.block k (Nat.lt_of_lt_of_le hk h.size)).trans (h.block k hk hne)⟩
theorem Exb.upd {b : Nat} {w w1 w2 : World} (h : Exb b w w1) (hu : Upd b w1 w2) : Exb b w w2 := ⟨by rw [hu.size]; exact h.size, fun k hk hne => (hu.block k hne).trans (h.block k hk hne)⟩
theorem Vr.exb {b g : Nat} {w w' : World} {t : TypeId} {cs : List Value} (hE : Exb b w w') (h : Vr w.heap g t cs) (hne : g ≠ b) : Vr w'.heap g t cs := (hE.block g h.lt hne).trans h
theorem T.regionXb {P : Program} {N : Fm} {Q : Exit → Act → World → Prop} {σ : Store} {w : World} {l : List Oper} (b : Nat) (id : Nat) (f : Nat) (t : Rt) (hm : P.follows .mixedOrders = true) (hB : treeB l.toArray f t = true) (h : ∀ w1 : World, w1.heap.size = w.heap.size → Ext w w1 → TF P N l Q (fun w' => Exb b w w') f t σ w1) : T P N (.region id l.toArray true) Q σ w :=
  T.regionF _ f t hm hB ((Exb.refl b w).ext (ext_drewN w 1)) (h (w.drewN 1) (by simp) (ext_drewN w 1))
end Go.Eng
namespace Go.Eng
open Go Go.RowKit
def flagless : Value → Bool
  | .bool _ => false
  | _ => true
def mapO : Obj → Bool
  | .map .. => true
  | .mapIter .. => true
  | _ => false
structure DE (F : Nat → Prop) (H H' : Array Obj) : Prop where
  size : H.size ≤ H'.size
  block : ∀ (k : Nat) (cs : Array Value) (t : TypeId) (x : Nat × Nat), H[k]? = some (.cells cs t x) → F k ∨ cs.toList.all noU64 = false → H'[k]? = H[k]?
  maps : ∀ (k : Nat) (o : Obj), H[k]? = some o → mapO o = true → F k → H'[k]? = H[k]?
theorem DE.ext {F : Nat → Prop} {w w' : World} (h : Ext w w') : DE F w.heap w'.heap := ⟨h.size, fun k cs t x hk _ => h.block k (Array.getElem?_eq_some_iff.1 hk).1, fun k o hk _ _ => h.block k (Array.getElem?_eq_some_iff.1 hk).1⟩
theorem DE.mono {F F' : Nat → Prop} {H H' : Array Obj} (h : DE F H H') (hF : ∀ k, F' k → F k) : DE F' H H' := ⟨h.size, fun k cs t x hk hc => h.block k cs t x hk (hc.imp (hF k) id), fun k o hk ho hf => h.maps k o hk ho (hF k hf)⟩
theorem DE.upd {F : Nat → Prop} {w w' : World} {b : Nat} {t : TypeId} {cs : List Value} (hu : Upd b w w') (hV : Vr w.heap b t cs) (hc : cs.all noU64 = true) (hF : ¬ F b) : DE F w.heap w'.heap :=
  ⟨Nat.le_of_eq hu.size.symm, (fun k cs' t' x hk hd => by
    refine hu.block k fun e => ?_
    subst e
    unfold Vr at hV
    rw [hV] at hk
    cases hk
    simp only [List.toList_toArray] at hd
    rw [hc] at hd
    rcases hd with hd | hd
    · exact hF hd
    · cases hd), fun k o hk _ hf => hu.block k fun e => hF (e ▸ hf)⟩
theorem hcell_eq {H H' : Array Obj} {b i : Nat} {v : Value} (h : H'[b]? = H[b]?) (hv : hcell H b i = some v) : hcell H' b i = some v := by
  unfold hcell at hv ⊢
  rw [h]; exact hv
theorem hcell_obj {H : Array Obj} {b i : Nat} {v : Value} (hv : hcell H b i = some v) : ∃ (cs : Array Value) (t : TypeId) (x : Nat × Nat), H[b]? = some (.cells cs t x) ∧ v ∈ cs.toList := by
  unfold hcell at hv
  split at hv
  · rename_i cs t x hb
    exact ⟨cs, t, x, hb, by rw [Array.mem_toList_iff]; exact Array.mem_of_getElem? hv⟩
  · cases hv
theorem all_false {f : Value → Bool} {l : List Value} {v : Value} (h : v ∈ l) (hf : f v = false) : l.all f = false := by
  cases hq : l.all f with
  | false => rfl
  | true => rw [List.all_eq_true.1 hq v h] at hf; cases hf
def fpA (A : Option Addr) (n : Nat) (k : Nat) : Prop := 0 < n ∧ ∃ o, A = some ⟨k, o, none⟩
theorem Sl.de {F : Nat → Prop} {H H' : Array Obj} {B n c : Nat} {A : Option Addr} {l : List Nat} (hd : DE F H H') (h : Sl u64v H B A n c l) : Sl u64v H' B A n c l := by
  refine ⟨h.len, h.cap, ?_⟩
  rcases h.mem with h0 | ⟨b, o, e, hlt, hm⟩
  · exact .inl h0
  · rcases Nat.eq_zero_or_pos n with h0 | h0
    · exact .inl h0
    · have hl : 0 < l.length := by have := h.len; omega
      have h1 := hm 0 l[0] (List.getElem?_eq_getElem hl)
      obtain ⟨cs, t, x, hb, hv⟩ := hcell_obj h1
      have hq := hd.block b cs t x hb (.inr (all_false hv rfl))
      exact .inr ⟨b, o, e, hlt, fun j x hx => hcell_eq hq (hm j x hx)⟩
theorem Sm.de {α : Type} {k : Nat} {f : α → List Value} {F : Nat → Prop} {H H' : Array Obj} {B n c : Nat} {A : Option Addr} {l : List α} (hF : ∀ b, fpA A n b → F b) (hd : DE F H H') (h : Sm k f H B A n c l) : Sm k f H' B A n c l := by
  refine ⟨h.len, h.cap, h.pos, h.wid, ?_⟩
  rcases h.in_heap with h0 | ⟨b, o, e, hlt, hh, hm⟩
  · exact .inl h0
  · rcases Nat.eq_zero_or_pos n with h0 | h0
    · exact .inl h0
    · have hl : 0 < l.length := by have := h.len; omega
      have hw := h.wid l[0] (List.getElem_mem hl)
      have hp := h.pos
      have h1 := hm 0 l[0] (List.getElem?_eq_getElem hl) 0 (f l[0])[0] (List.getElem?_eq_getElem (by omega))
      obtain ⟨cs, t, x, hb, hv⟩ := hcell_obj h1
      have hq := hd.block b cs t x hb (.inl (hF b ⟨h0, o, e⟩))
      exact .inr ⟨b, o, e, hlt, fun j x hx q v hv => hcell_eq hq (hm j x hx q v hv)⟩
theorem Sm.fp_lt {α : Type} {k : Nat} {f : α → List Value} {H : Array Obj} {n c : Nat} {A : Option Addr} {l : List α} (h : Sm k f H H.size A n c l) {b : Nat} (hb : fpA A n b) : b < H.size := by
  obtain ⟨h0, o, e⟩ := hb
  rcases h.mem with h1 | ⟨b', o', e', hlt, _⟩
  · omega
  · rw [e] at e'; cases e'; exact hlt
theorem Sm.fp_flag {H : Array Obj} {B n c b : Nat} {A : Option Addr} {l : List IV} {t : TypeId} {cs : List Value} (h : Sm 2 ivc H B A n c l) (hb : fpA A n b) (hV : Vr H b t cs) (hc : cs.all flagless = true) : False := by
  obtain ⟨h0, o, e⟩ := hb
  rcases h.mem with h1 | ⟨b', o', e', hlt, hm⟩
  · omega
  · rw [e] at e'; cases e'
    have hl : 0 < l.length := by have := h.len; omega
    have h1 := hm 0 l[0] (List.getElem?_eq_getElem hl) 0 (.bool l[0].neg) rfl
    rw [hV.cell] at h1
    have h2 := List.all_eq_true.1 hc _ (List.mem_of_getElem? h1)
    cases h2
structure Exs (S : Nat → Prop) (w w' : World) : Prop where
  os : w'.os = w.os
  tape : w'.tape = w.tape
  output : w'.output = w.output
  size : w.heap.size ≤ w'.heap.size
  block : ∀ k, k < w.heap.size → ¬ S k → w'.heap[k]? = w.heap[k]?
theorem Exs.refl (S : Nat → Prop) (w : World) : Exs S w w := ⟨rfl, rfl, rfl, Nat.le_refl _, fun _ _ _ => rfl⟩
theorem Exs.of {S : Nat → Prop} {w w' : World} (h : Ext w w') : Exs S w w' := ⟨h.os, h.tape, h.output, h.size, fun k hk _ => h.block k hk⟩
theorem Exs.trans {S : Nat → Prop} {a b c : World} (h : Exs S a b) (k : Exs S b c) : Exs S a c :=
  ⟨k.os.trans h.os, k.tape.trans h.tape, k.output.trans h.output, Nat.le_trans h.size k.size, fun i hi hs => (k.block i (Nat.lt_of_lt_of_le hi h.size) hs).trans (h.block i hi hs)⟩
theorem Exs.mono {S S' : Nat → Prop} {a b : World} (h : Exs S a b) (hs : ∀ k, k < a.heap.size → S k → S' k) : Exs S' a b := ⟨h.os, h.tape, h.output, h.size, fun k hk hn => h.block k hk fun e => hn (hs k hk e)⟩
theorem Exs.ext {S : Nat → Prop} {a b : World} (h : Exs S a b) (hs : ∀ k, k < a.heap.size → ¬ S k) : Ext a b := ⟨h.os, h.tape, h.output, h.size, fun k hk => h.block k hk (hs k hk)⟩
theorem Exs.ext0 {a b : World} (h : Exs (fun _ => False) a b) : Ext a b := h.ext fun _ _ h => h
theorem Exs.then {S S' : Nat → Prop} {w0 a b : World} (h : Exs S w0 a) (k : Exs S' a b) (hs : ∀ i, i < w0.heap.size → S' i → S i) : Exs S w0 b :=
  ⟨k.os.trans h.os, k.tape.trans h.tape, k.output.trans h.output, Nat.le_trans h.size k.size, fun i hi hn => (k.block i (Nat.lt_of_lt_of_le hi h.size) fun e => hn (hs i hi e)).trans (h.block i hi hn)⟩
theorem Upd.exs {g : Nat} {w w' : World} (h : Upd g w w') : Exs (fun k => k = g) w w' := ⟨h.os, h.tape, h.output, Nat.le_of_eq h.size.symm, fun k _ hn => h.block k hn⟩
structure DP where
  p : Array Obj → Prop
  fp : Nat → Prop
  lt : ∀ H k, p H → fp k → k < H.size
  st : ∀ H H', DE fp H H' → p H → p H'
structure VB where
  b : Nat
  t : TypeId
  cs : List Value
structure Fr (w0 w : World) (L : List VB) (D : List DP) (S : Nat → Prop := fun _ => False) : Prop where
  exs : Exs S w0 w
  vars : ∀ v ∈ L, (w0.heap.size ≤ v.b ∨ S v.b) ∧ Vr w.heap v.b v.t v.cs
  dist : L.Pairwise (fun x y => x.b ≠ y.b)
  data : ∀ d ∈ D, d.p w.heap
  apart : ∀ v ∈ L, ∀ d ∈ D, ¬ d.fp v.b
inductive InV : List VB → Nat → TypeId → List Value → Prop
  | head {L : List VB} {b : Nat} {t : TypeId} {cs : List Value} : InV (⟨b, t, cs⟩ :: L) b t cs
  | tail {x : VB} {L : List VB} {b : Nat} {t : TypeId} {cs : List Value} : InV L b t cs → InV (x :: L) b t cs
theorem InV.mem {L : List VB} {b : Nat} {t : TypeId} {cs : List Value} (h : InV L b t cs) : ⟨b, t, cs⟩ ∈ L := by
  induction h with
  | head => exact List.mem_cons_self ..
  | tail _ ih => exact List.mem_cons_of_mem _ ih
inductive SetV : List VB → Nat → TypeId → List Value → List Value → List VB → Prop
  | head {L : List VB} {b : Nat} {t : TypeId} {cs r : List Value} : SetV (⟨b, t, cs⟩ :: L) b t cs r (⟨b, t, r⟩ :: L)
  | tail {x : VB} {L L' : List VB} {b : Nat} {t : TypeId} {cs r : List Value} : SetV L b t cs r L' → SetV (x :: L) b t cs r (x :: L')
theorem SetV.inV {L L' : List VB} {b : Nat} {t : TypeId} {cs r : List Value} (h : SetV L b t cs r L') : InV L b t cs := by
  induction h with
  | head => exact .head
  | tail _ ih => exact .tail ih
theorem SetV.split {L L' : List VB} {b : Nat} {t : TypeId} {cs r : List Value} (h : SetV L b t cs r L') : ∃ pre post, L = pre ++ ⟨b, t, cs⟩ :: post ∧ L' = pre ++ ⟨b, t, r⟩ :: post := by
  induction h with
  | head => exact ⟨[], _, rfl, rfl⟩
  | @tail x L L' _ _ _ _ _ ih =>
    obtain ⟨pre, post, h1, h2⟩ := ih
    exact ⟨x :: pre, post, by rw [h1]; rfl, by rw [h2]; rfl⟩
theorem memH {d : DP} {D : List DP} : d ∈ d :: D := List.mem_cons_self ..
theorem memT {d x : DP} {D : List DP} (h : d ∈ D) : d ∈ x :: D := List.mem_cons_of_mem _ h
section
variable {S : Nat → Prop} {w0 w w' : World} {L L' : List VB} {D D' : List DP} {b : Nat} {t : TypeId} {cs r : List Value}
theorem Fr.refl (w : World) : Fr w w [] [] := ⟨Exs.refl _ _, fun _ h => (by cases h), List.Pairwise.nil, fun _ h => (by cases h), fun _ h => (by cases h)⟩
theorem Fr.ext (h : Fr w0 w L D) : Ext w0 w := h.exs.ext0
theorem Fr.add (h : Fr w0 w L D S) (d : DP) (hd : d.p w.heap) (ha : ∀ v ∈ L, ¬ d.fp v.b) : Fr w0 w L (d :: D) S := ⟨h.exs, h.vars, h.dist, fun x hx => by
  rcases List.mem_cons.1 hx with rfl | hx
  · exact hd
  · exact h.data x hx, fun v hv x hx => by
  rcases List.mem_cons.1 hx with rfl | hx
  · exact ha v hv
  · exact h.apart v hv x hx⟩
theorem Fr.exts (h : Fr w0 w L D S) (hE : Ext w w') : Fr w0 w' L D S :=
  ⟨h.exs.trans (.of hE), fun v hv => ⟨(h.vars v hv).1, (h.vars v hv).2.ext hE⟩, h.dist, fun d hd => d.st _ _ (DE.ext hE) (h.data d hd), h.apart⟩
theorem Fr.addNew (h : Fr w0 w L D S) (hE : Ext w w') (d : DP) (hd : d.p w'.heap) (hn : ∀ k, d.fp k → w.heap.size ≤ k) : Fr w0 w' L (d :: D) S :=
  (h.exts hE).add d hd fun v hv hk => by have h1 := (h.vars v hv).2.lt; have h2 := hn _ hk; omega
theorem Fr.var (h : Fr w0 w L D S) (hv : InV L b t cs) : Vr w.heap b t cs := (h.vars _ hv.mem).2
theorem Fr.lo (h : Fr w0 w L D S) (hv : InV L b t cs) : w0.heap.size ≤ b ∨ S b := (h.vars _ hv.mem).1
theorem Fr.new (h : Fr w0 w L D S) (hb : b = w.heap.size) (hV : Vr w'.heap b t cs) (hE : Ext w w') : Fr w0 w' (⟨b, t, cs⟩ :: L) D S := by
  have h1 := h.exts hE
  refine ⟨h1.exs, fun v hv => ?_, List.pairwise_cons.2 ⟨fun v hv e => ?_, h.dist⟩, h1.data, fun v hv d hd => ?_⟩
  · rcases List.mem_cons.1 hv with rfl | hv
    · exact ⟨.inl (by rw [hb]; exact h.exs.size), hV⟩
    · exact h1.vars v hv
  · have := (h.vars v hv).2.lt
    simp only at e
    omega
  · rcases List.mem_cons.1 hv with rfl | hv
    · intro hk
      have := d.lt _ _ (h.data d hd) hk
      simp only at this
      omega
    · exact h.apart v hv d hd
theorem Fr.store (h : Fr w0 w L D S) (hS : SetV L b t cs r L') (hc : cs.all noU64 = true) (hu : Upd b w w') (hV : Vr w'.heap b t r) : Fr w0 w' L' D S := by
  have hb := h.lo hS.inV
  have hap := fun d hd => h.apart _ hS.inV.mem d hd
  refine ⟨h.exs.then hu.exs (fun i hi e => by subst e; rcases hb with hb | hb; omega; exact hb), ?_, ?_, fun d hd => d.st _ _ (DE.upd hu (h.var hS.inV) hc (hap d hd)) (h.data d hd), ?_⟩
  · intro v hv
    obtain ⟨pre, post, e1, e2⟩ := hS.split
    subst e1 e2
    have hdist := h.dist
    rw [List.pairwise_append] at hdist
    have hq : ∀ v, v ∈ pre ∨ v ∈ post → (w0.heap.size ≤ v.b ∨ S v.b) ∧ Vr w'.heap v.b v.t v.cs := by
      intro v hv
      have hm : v ∈ pre ++ (⟨b, t, cs⟩ : VB) :: post := by
        rcases hv with hv | hv
        · exact List.mem_append_left _ hv
        · exact List.mem_append_right _ (List.mem_cons_of_mem _ hv)
      have hne : v.b ≠ b := by
        rcases hv with hv | hv
        · exact hdist.2.2 v hv _ (List.mem_cons_self ..)
        · exact fun e => (List.pairwise_cons.1 hdist.2.1).1 v hv e.symm
      exact ⟨(h.vars v hm).1, (h.vars v hm).2.upd hu hne⟩
    rcases List.mem_append.1 hv with hv | hv
    · exact hq v (.inl hv)
    · rcases List.mem_cons.1 hv with rfl | hv
      · exact ⟨hb, hV⟩
      · exact hq v (.inr hv)
  · obtain ⟨pre, post, e1, e2⟩ := hS.split
    subst e1 e2
    have hdist := h.dist
    rw [List.pairwise_append, List.pairwise_cons] at hdist ⊢
    refine ⟨hdist.1, ⟨fun v hv => hdist.2.1.1 v hv, hdist.2.1.2⟩, fun x hx y hy => ?_⟩
    rcases List.mem_cons.1 hy with rfl | hy
    · exact hdist.2.2 x hx ⟨b, t, cs⟩ (List.mem_cons_self ..)
    · exact hdist.2.2 x hx y (List.mem_cons_of_mem _ hy)
  · intro v hv d hd
    obtain ⟨pre, post, e1, e2⟩ := hS.split
    subst e1 e2
    rcases List.mem_append.1 hv with hv | hv
    · exact h.apart v (List.mem_append_left _ hv) d hd
    · rcases List.mem_cons.1 hv with rfl | hv
      · exact hap d hd
      · exact h.apart v (List.mem_append_right _ (List.mem_cons_of_mem _ hv)) d hd
theorem Fr.weak (h : Fr w0 w L' D' S) (hL : L.Sublist L') (hD : ∀ d ∈ D, d ∈ D') : Fr w0 w L D S := ⟨h.exs, fun v hv => h.vars v (hL.subset hv), h.dist.sublist hL, fun d hd => h.data d (hD d hd), fun v hv d hd => h.apart v (hL.subset hv) d (hD d hd)⟩
theorem allH {x : DP} {D D' : List DP} (hx : x ∈ D') (h : ∀ d ∈ D, d ∈ D') : ∀ d ∈ x :: D, d ∈ D' := fun d hd => by
  rcases List.mem_cons.1 hd with rfl | hd
  · exact hx
  · exact h d hd
theorem allN {D' : List DP} : ∀ d ∈ ([] : List DP), d ∈ D' := fun _ h => (by cases h)
theorem allR {D : List DP} : ∀ d ∈ D, d ∈ D := fun _ h => h
theorem allT {x : DP} {D D' : List DP} (h : ∀ d ∈ D, d ∈ D') : ∀ d ∈ D, d ∈ x :: D' := fun d hd => List.mem_cons_of_mem _ (h d hd)
theorem Fr.get (h : Fr w0 w L D S) {d : DP} (hd : d ∈ D) : d.p w.heap := h.data d hd
end
/-! ### Steps -/
section
variable {P : Program} {N : Fm} {Q : Exit → Act → World → Prop} {σ : Store} {S : Nat → Prop} {w0 w : World} {L : List VB} {D : List DP} {ops : Array Oper} {d : Nat} {t : TypeId} {pos : String} {af : Array Edge} {rest : List Oper} {l : List Oper}
theorem T.regionFr (hF : Fr w0 w L D S) (id : Nat) (f : Nat) (t : Rt) (hm : P.follows .mixedOrders = true) (hB : treeB l.toArray f t = true)
    (h : ∀ w1 : World, Fr w0 w1 L D S → TF P N l Q (fun w' => Fr w0 w' L D S) f t σ w1) : T P N (.region id l.toArray true) Q σ w :=
  T.regionF _ f t hm hB (hF.exts (ext_drewN w 1)) (h _ (hF.exts (ext_drewN w 1)))
theorem TL.boxFr (hF : Fr w0 w L D S) {x : Operand} {ty : TypeId} {v : Value} (hx : look σ x = some v) (hd : Nat.blt d N.n = true)
    (K : ∀ w' b, Fr w0 w' (⟨b, ty, v.cells.toList⟩ :: L) D S → TL P N .seq ops Q rest ((d, .pointer (some ⟨b, 0, none⟩)) :: σ) w') :
    TL P N .seq ops Q (⟨some d, .box ty x, t, pos, af, none⟩ :: rest) σ w :=
  TL.box hx hd fun w' b hb hV hE _ => K w' b (hF.new hb hV hE)
theorem TL.boxAFr (hF : Fr w0 w L D S) {x : Operand} {ty : TypeId} {cs : List Value} (hx : look σ x = some (.agg cs.toArray)) (hd : Nat.blt d N.n = true)
    (K : ∀ w' b, Fr w0 w' (⟨b, ty, cs⟩ :: L) D S → TL P N .seq ops Q rest ((d, .pointer (some ⟨b, 0, none⟩)) :: σ) w') :
    TL P N .seq ops Q (⟨some d, .box ty x, t, pos, af, none⟩ :: rest) σ w :=
  TL.boxA hx hd fun w' b hb hV hE _ => K w' b (hF.new hb hV hE)
theorem TL.allocFr (hF : Fr w0 w L D S) {ty : TypeId} {z : Value} {sz b1 : Nat} [hS : USize P ty z sz b1] {cs : List Value} (hz : z.cells.toList = cs) (hd : Nat.blt d N.n = true)
    (K : ∀ w' b, Fr w0 w' (⟨b, ty, cs⟩ :: L) D S → TL P N .seq ops Q rest ((d, .pointer (some ⟨b, 0, none⟩)) :: σ) w') :
    TL P N .seq ops Q (⟨some d, .alloc ty, t, pos, af, none⟩ :: rest) σ w :=
  TL.alloc hd fun w' b hb hV hE _ => K w' b (hF.new hb (by rw [← hz]; exact hV) hE)
theorem TL.storeAFr (hF : Fr w0 w L D S) {x y : Operand} {ty e : TypeId} {z : Value} {sz b1 : Nat} [hS : USize P ty z sz b1] {b o : Nat} {cs r vs : List Value} {L' : List VB} (hx : look σ x = some (.pointer (some ⟨b, o, none⟩))) (hy : look σ y = some (.agg vs.toArray))
    (hsz : Nat.beq vs.length sz = true) (h1 : vs.all (·.oneCell') = true) (h : SetV L b e cs r L' ∧ putO cs o vs = some r) (hc : cs.all noU64 = true)
    (K : ∀ w', Fr w0 w' L' D S → TL P N .seq ops Q rest σ w') : TL P N .seq ops Q (⟨none, .store ty x y, t, pos, af, none⟩ :: rest) σ w :=
  TL.storeVA hx hy hsz h1 (hF.var h.1.inV) h.2 fun w' h1 h2 => K w' (hF.store h.1 hc h2 h1)
theorem TL.storeFr (hF : Fr w0 w L D S) {x y : Operand} {ty e : TypeId} {z : Value} {b1 : Nat} [hS : USize P ty z 1 b1] {b o : Nat} {cs r : List Value} {v : Value} {L' : List VB} (hx : look σ x = some (.pointer (some ⟨b, o, none⟩))) (hy : look σ y = some v) (hvs : v.cells.toList = [v]) (h1 : v.oneCell' = true) (h : SetV L b e cs r L' ∧ putO cs o [v] = some r) (hc : cs.all noU64 = true)
    (K : ∀ w', Fr w0 w' L' D S → TL P N .seq ops Q rest σ w') : TL P N .seq ops Q (⟨none, .store ty x y, t, pos, af, none⟩ :: rest) σ w :=
  TL.storeV hx hy hvs h1 (hF.var h.1.inV) h.2 fun w' h1 h2 => K w' (hF.store h.1 hc h2 h1)
end
section
variable {P : Program} {σ : Store} {d : Option Tmp} {t : TypeId} {pos : String} {af : Array Edge} {gd : Option (Nat × Bool)} {S : Nat → Prop} {w0 w : World} {L : List VB} {D : List DP}
theorem ev_loadFr (hF : Fr w0 w L D S) {x : Operand} {ty e : TypeId} [hO : UOne P ty] {b o : Nat} {cs : List Value} {v : Value} (hx : look σ x = some (.pointer (some ⟨b, o, none⟩))) (h : InV L b e cs ∧ nthV cs o = some v) : Ev P σ w.heap ⟨d, .load ty x, t, pos, af, gd⟩ v := ev_loadV hx (hF.var h.1) h.2
theorem ev_loadAFr (hF : Fr w0 w L D S) {x : Operand} {ty e : TypeId} [hA : UAgg P ty] {z : Value} {sz b1 : Nat} [hS : USize P ty z sz b1] {b o : Nat} {cs cs' : List Value} (hx : look σ x = some (.pointer (some ⟨b, o, none⟩))) (h : InV L b e cs ∧ subV cs o sz = some cs') :
    Ev P σ w.heap ⟨d, .load ty x, t, pos, af, gd⟩ (.agg cs'.toArray) := ev_loadVA hx (hF.var h.1) h.2
end
/-! ### Kinds of operations and judgements, for quick choices -/
section
variable {P : Program} {N : Fm} {q : Md} {Q : Exit → Act → World → Prop} {S : World → Prop} {σ : Store} {H : Array Obj} {w : World} {ops : Array Oper} {d : Option Tmp} {t : TypeId} {pos : String} {af : Array Edge} {gd : Option (Nat × Bool)} {rest l : List Oper} {v : Value} {f : Nat}
theorem Ev.isBin {op : BinOp} {tx ty : TypeId} {x y : Operand} (h : Ev P σ H ⟨d, .binOp op tx x y ty, t, pos, af, gd⟩ v) : Ev P σ H ⟨d, .binOp op tx x y ty, t, pos, af, gd⟩ v := h
theorem Ev.isLoad {ty : TypeId} {x : Operand} (h : Ev P σ H ⟨d, .load ty x, t, pos, af, gd⟩ v) : Ev P σ H ⟨d, .load ty x, t, pos, af, gd⟩ v := h
theorem TL.isG {op : Op} {g : Nat × Bool} (h : TL P N q ops Q (⟨d, op, t, pos, af, some g⟩ :: rest) σ w) : TL P N q ops Q (⟨d, op, t, pos, af, some g⟩ :: rest) σ w := h
theorem TL.isCall {f : FuncId} {xs : Array Operand} {tys : Array TypeId} (h : TL P N q ops Q (⟨d, .call { callee := .value (.func f), args := xs, argTypes := tys }, t, pos, af, none⟩ :: rest) σ w) : TL P N q ops Q (⟨d, .call { callee := .value (.func f), args := xs, argTypes := tys }, t, pos, af, none⟩ :: rest) σ w := h
theorem TL.isOp {o : Oper} (h : TL P N q ops Q (o :: rest) σ w) : TL P N q ops Q (o :: rest) σ w := h
theorem TL.isBin {op : BinOp} {tx ty : TypeId} {x y : Operand} (h : TL P N q ops Q (⟨d, .binOp op tx x y ty, t, pos, af, gd⟩ :: rest) σ w) : TL P N q ops Q (⟨d, .binOp op tx x y ty, t, pos, af, gd⟩ :: rest) σ w := h
theorem T.is {c : Code} (h : T P N c Q σ w) : T P N c Q σ w := h
theorem G.is {e : Exit} (h : G N e Q σ w) : G N e Q σ w := h
def TFo (P : Program) (N : Fm) (l : List Oper) (Q : Exit → Act → World → Prop) (S : World → Prop) (f : Nat) (t : Rt) (o : Oper) (σ : Store) (w : World) : Prop :=
  ∀ a, Rep N σ a → ∃ v, YieldsIf P l.toArray S o v a ∧ wpTree P l.toArray (Only Q) S f t (a.put o.dst v) w
theorem TF.pick {i : Nat} {tr : Rt} {o : Oper} (hi : pick1 l i = some o) (h : TFo P N l Q S f tr o σ w) : TF P N l Q S f (.s i tr) σ w := by
  unfold TF
  intro a ha
  obtain ⟨v, h1, h2⟩ := h a ha
  exact ⟨o, v, pick_at hi, h1, h2⟩
theorem TFo.ev {tr : Rt} {op : Op} {ty : TypeId} {d : Nat} (h : ∀ w', S w' → Ev P σ w'.heap ⟨some d, op, ty, pos, af, none⟩ v) (hd : Nat.blt d N.n = true) (k : TF P N l Q S f tr ((d, v) :: σ) w) : TFo P N l Q S f tr ⟨some d, op, ty, pos, af, none⟩ σ w := by
  unfold TF at k
  exact fun a ha => ⟨v, .inl ⟨by simp [Region.wanted], fun w' hw' => by have := h w' hw'; unfold Ev at this; exact this _ w' ha.agree rfl⟩, k _ (ha.put hd v)⟩
theorem TFo.evg {tr : Rt} {op : Op} {ty : TypeId} {d : Nat} {j s : Nat} {want b : Bool} (hj : (pick1 l j).bind (·.dst) = some s) (hb : look1 σ s = some (.bool b)) (heq : (b == want) = true)
    (h : ∀ w', S w' → Ev P σ w'.heap ⟨some d, op, ty, pos, af, some (j, want)⟩ v) (hd : Nat.blt d N.n = true) (k : TF P N l Q S f tr ((d, v) :: σ) w) : TFo P N l Q S f tr ⟨some d, op, ty, pos, af, some (j, want)⟩ σ w := by
  unfold TF at k
  refine fun a ha => ⟨v, .inl ⟨?_, fun w' hw' => by have := h w' hw'; unfold Ev at this; exact this _ w' ha.agree rfl⟩, k _ (ha.put hd v)⟩
  have hj' : (l.toArray[j]?).bind (·.dst) = some s := by rw [List.getElem?_toArray, ← pick1_eq]; exact hj
  simp only [Region.wanted, yielded_of ha hj' hb]
  cases b <;> cases want <;> simp_all
theorem TFo.skip {tr : Rt} {op : Op} {ty : TypeId} {d : Nat} {j s : Nat} {want b : Bool} (hj : (pick1 l j).bind (·.dst) = some s) (hb : look1 σ s = some (.bool b)) (heq : (b == want) = false)
    (hd : Nat.blt d N.n = true) (k : TF P N l Q S f tr ((d, undef) :: σ) w) : TFo P N l Q S f tr ⟨some d, op, ty, pos, af, some (j, want)⟩ σ w := by
  unfold TF at k
  refine fun a ha => ⟨undef, .inr ⟨?_, rfl⟩, k _ (ha.put hd undef)⟩
  have hj' : (l.toArray[j]?).bind (·.dst) = some s := by rw [List.getElem?_toArray, ← pick1_eq]; exact hj
  simp only [Region.wanted, yielded_of ha hj' hb]
  cases b <;> cases want <;> simp_all
theorem TFo.skipU {tr : Rt} {op : Op} {ty : TypeId} {d : Nat} {j s : Nat} {want : Bool} (hj : (pick1 l j).bind (·.dst) = some s) (hb : look1 σ s = some undef)
    (hd : Nat.blt d N.n = true) (k : TF P N l Q S f tr ((d, undef) :: σ) w) : TFo P N l Q S f tr ⟨some d, op, ty, pos, af, some (j, want)⟩ σ w := by
  unfold TF at k
  refine fun a ha => ⟨undef, .inr ⟨?_, rfl⟩, k _ (ha.put hd undef)⟩
  have hj' : (l.toArray[j]?).bind (·.dst) = some s := by rw [List.getElem?_toArray, ← pick1_eq]; exact hj
  have hy : yielded l.toArray a.tmps j = none := by
    have h := ha.get s _ hb
    unfold yielded
    rw [hj']
    simp only [Option.bind_some]
    rw [Array.getD_eq_getD_getElem?] at h
    cases hx : a.tmps[s]? with
    | none => rfl
    | some v => rw [hx] at h; simp at h; subst h; rfl
  simp only [Region.wanted, hy]; rfl
theorem TFo.is {tr : Rt} {o : Oper} (h : TFo P N l Q S f tr o σ w) : TFo P N l Q S f tr o σ w := h
theorem TF.is {tr : Rt} (h : TF P N l Q S f tr σ w) : TF P N l Q S f tr σ w := h
theorem ev_cmpG {op : BinOp} {tx ty : TypeId} {x y : Operand} {k : IntKind} {m n : Int} {p : Prop} [Decidable p] (hx : look σ x = some (.int k m)) (hy : look σ y = some (.int k n)) (hp : cmpP op m n = some p) : Ev P σ H ⟨d, .binOp op tx x y ty, t, pos, af, gd⟩ (.bool (decide p)) := by
  unfold cmpP at hp
  split at hp <;> first | cases hp; done | skip
  all_goals (cases hp)
  · exact ev_lss hx hy (by congr)
  · exact ev_leq hx hy (by congr)
  · exact ev_gtr hx hy (by congr)
  · exact ev_geq hx hy (by congr)
  · exact ev_eql hx hy (by congr)
  · exact ev_neq hx hy (by by_cases h : m = n <;> simp [h])
theorem TFo.cmpG {tr : Rt} {op : BinOp} {tx ty ty' : TypeId} {x y : Operand} {k : IntKind} {m n : Int} {p : Prop} {d : Nat} (hx : look σ x = some (.int k m)) (hy : look σ y = some (.int k n)) (hp : cmpP op m n = some p) (hd : Nat.blt d N.n = true)
    (k1 : p → TF P N l Q S f tr ((d, .bool true) :: σ) w) (k0 : ¬ p → TF P N l Q S f tr ((d, .bool false) :: σ) w) : TFo P N l Q S f tr ⟨some d, .binOp op tx x y ty, ty', pos, af, none⟩ σ w := by
  have hdec := Classical.propDecidable p
  have he := fun H => ev_cmpG (P := P) (H := H) (d := some d) (t := ty') (pos := pos) (af := af) (gd := none) (tx := tx) (ty := ty) hx hy hp
  by_cases h : p
  · exact TFo.ev (fun w' _ => by have := he w'.heap; rw [decide_eq_true h] at this; exact this) hd (k1 h)
  · exact TFo.ev (fun w' _ => by have := he w'.heap; rw [decide_eq_false h] at this; exact this) hd (k0 h)
theorem TFo.cmpGg {tr : Rt} {op : BinOp} {tx ty ty' : TypeId} {x y : Operand} {k : IntKind} {m n : Int} {p : Prop} {d : Nat} {j s : Nat} {want b : Bool} (hj : (pick1 l j).bind (·.dst) = some s) (hb : look1 σ s = some (.bool b)) (heq : (b == want) = true) (hx : look σ x = some (.int k m)) (hy : look σ y = some (.int k n)) (hp : cmpP op m n = some p) (hd : Nat.blt d N.n = true)
    (k1 : p → TF P N l Q S f tr ((d, .bool true) :: σ) w) (k0 : ¬ p → TF P N l Q S f tr ((d, .bool false) :: σ) w) : TFo P N l Q S f tr ⟨some d, .binOp op tx x y ty, ty', pos, af, some (j, want)⟩ σ w := by
  have hdec := Classical.propDecidable p
  have he := fun H => ev_cmpG (P := P) (H := H) (d := some d) (t := ty') (pos := pos) (af := af) (gd := some (j, want)) (tx := tx) (ty := ty) hx hy hp
  by_cases h : p
  · exact TFo.evg hj hb heq (fun w' _ => by have := he w'.heap; rw [decide_eq_true h] at this; exact this) hd (k1 h)
  · exact TFo.evg hj hb heq (fun w' _ => by have := he w'.heap; rw [decide_eq_false h] at this; exact this) hd (k0 h)
end
attribute [irreducible] TFo
end Go.Eng
namespace Go.Eng
open Go Go.RowKit
theorem made_flat {α : Type} {f : α → List Value} {u : α} {z : List Value} {c k : Nat} (hk : 0 < k) (hz : f u = z) (hl : z.length = k) : (madeCells z.toArray (c * k)).toList = (List.replicate c u).flatMap f := by
  have hw : ∀ x ∈ List.replicate c u, (f x).length = k := fun x hx => by rw [(List.mem_replicate.1 hx).2, hz, hl]
  apply List.ext_getElem?
  intro i
  rcases Nat.lt_or_ge i (c * k) with hi | hi
  · have h1 : i / k < c := Nat.div_lt_of_lt_mul (by rw [Nat.mul_comm]; exact hi)
    have h2 := flatMap_get hw (i / k) (i % k) u (by simp [h1]) (Nat.mod_lt _ hk)
    rw [Nat.div_add_mod'] at h2
    rw [h2, hz]
    have h3 : i % k < z.length := by rw [hl]; exact Nat.mod_lt _ hk
    simp [madeCells, hi, hl, List.getElem?_eq_getElem h3]
  · rw [List.getElem?_eq_none (by simp [madeCells]; exact hi), List.getElem?_eq_none (by rw [flatMap_len hw]; simp; exact hi)]
theorem flatMap_set {α : Type} {f : α → List Value} {k : Nat} (hw : ∀ x, (f x).length = k) (u : α) : ∀ (l : List α) (i : Nat), i < l.length → (l.flatMap f).take (i * k) ++ f u ++ (l.flatMap f).drop (i * k + k) = (l.set i u).flatMap f
  | [], i, h => by simp at h
  | y :: l, 0, h => by
    simp only [Nat.zero_mul, List.take_zero, List.nil_append, Nat.zero_add, List.set_cons_zero, List.flatMap_cons]
    rw [List.drop_append, List.drop_of_length_le (by rw [hw]; exact Nat.le_refl _), hw]; simp
  | y :: l, i + 1, h => by
    have ih := flatMap_set hw u l i (by simpa using h)
    simp only [List.set_cons_succ, List.flatMap_cons]
    rw [← ih]
    have e1 : (i + 1) * k = (f y).length + i * k := by rw [hw, Nat.add_mul, Nat.one_mul, Nat.add_comm]
    have e2 : (i + 1) * k + k = (f y).length + (i * k + k) := by rw [e1]; omega
    rw [e2, e1, List.take_length_add_append, List.drop_length_add_append]
    simp
section
variable {P : Program} {N : Fm} {Q : Exit → Act → World → Prop} {σ : Store} {S : Nat → Prop} {w0 w : World} {L : List VB} {D : List DP} {ops : Array Oper} {d : Nat} {t : TypeId} {pos : String} {af : Array Edge} {rest : List Oper}
theorem TL.makeFr (hF : Fr w0 w L D S) {α : Type} (f : α → List Value) (u : α) {x y : Operand} {ty e : TypeId} [hT : USlice P ty e] {z : List Value} {sz b1 : Nat} [hS : USize P e (.agg z.toArray) sz b1] {k k' : IntKind} {z1 z2 : Int} {n c : Nat} [e1 : IsN z1 n] [e2 : IsN z2 c]
    (hx : look σ x = some (.int k z1)) (hy : look σ y = some (.int k' z2)) (hd : Nat.blt d N.n = true) (hn : n ≤ c) (hc : b1 * c ≤ 281474976710656 ∧ c ≤ 9223372036854775807) (hu : f u = z) (hzl : Nat.beq z.length sz = true) (hz0 : Nat.blt 0 sz = true)
    (K : ∀ w' b, Fr w0 w' (⟨b, e, (List.replicate c u).flatMap f⟩ :: L) D S → TL P N .seq ops Q rest ((d, .slice (some ⟨b, 0, none⟩) n c) :: σ) w') :
    TL P N .seq ops Q (⟨some d, .makeSlice ty x y, t, pos, af, none⟩ :: rest) σ w := by
  obtain rfl := e1.out
  obtain rfl := e2.out
  obtain ⟨i, hi, hz0', hsz, hby⟩ := hS.info
  have hb : (i.bytes : Int) * (c : Int) ≤ 281474976710656 := by
    have h : ((i.bytes * c : Nat) : Int) ≤ 281474976710656 := by rw [hby]; omega
    rwa [Int.natCast_mul] at h
  have hr := fun (w : World) => run_make (P := P) w ty e i (.agg z.toArray) hT.out hi hz0' k k' (n : Int) (c : Int) (by omega) (by omega) hb (by omega)
  simp only [Int.toNat_natCast, hsz] at hr
  have hzl' := Nat.eq_of_beq_eq_true hzl
  have hsz0 : 0 < sz := by simpa [Nat.blt_eq] using hz0
  have hflat := made_flat (c := c) hsz0 hu hzl'
  refine TL.op (w' := w.alloc (.cells (madeCells z.toArray (c * sz)) e)) (fun ρ hρ => ?_) hd (K _ _ (hF.new rfl (t := e) ?_ (ext_alloc _ _)))
  · simp [execOp, hρ x _ hx, hρ y _ hy]
    have := hr w
    simp only [Value.cells] at this
    simp [this]
  · rw [← hflat]
    unfold Vr
    rw [heap_alloc]
theorem TL.storeAtFr (hF : Fr w0 w L D S) {α : Type} {f : α → List Value} {x y : Operand} {ty e : TypeId} {z : Value} {k b1 : Nat} [hS : USize P ty z k b1] {b i : Nat} {l : List α} (u : α) {vs : List Value} {L' : List VB}
    (hx : look σ x = some (.pointer (elemA (some ⟨b, 0, none⟩) (i * k)))) (hy : look σ y = some (.agg vs.toArray)) (hvs : f u = vs) (h1 : vs.all (·.oneCell') = true) (hw : ∀ x, (f x).length = k) (hi : i < l.length) (hn : (l.flatMap f).all noU64 = true)
    (hL : SetV L b e (l.flatMap f) ((l.set i u).flatMap f) L')
    (K : ∀ w', Fr w0 w' L' D S → TL P N .seq ops Q rest σ w') : TL P N .seq ops Q (⟨none, .store ty x y, t, pos, af, none⟩ :: rest) σ w := by
  subst hvs
  have hV := hF.var hL.inV
  have hlen : (l.flatMap f).length = l.length * k := flatMap_len fun x _ => hw x
  have hik : i * k + k ≤ l.length * k := by
    have h1 : (i + 1) * k ≤ l.length * k := Nat.mul_le_mul_right k hi
    rw [Nat.add_mul, Nat.one_mul] at h1
    exact h1
  obtain ⟨ii, hii, _, hsz', _⟩ := hS.info
  have hst := run_storeCells_at P b (0 + i * k) e (f u) 0 (l.flatMap f).toArray w hV (by simp only [List.size_toArray]; rw [hlen, hw]; omega) (fun v hv => List.all_eq_true.1 h1 v hv)
  simp only [Nat.add_zero, Nat.zero_add, hw] at hst
  rw [flatMap_set hw u l i hi] at hst
  refine TL.op0 (w' := w.setRow b ((l.set i u).flatMap f).toArray) (fun ρ hρ => ?_) (K _ (hF.store hL hn (upd_setRow _ _ _) ?_))
  · have e0 : look σ x = some (.pointer (some ⟨b, i * k, none⟩)) := by rw [hx]; simp [elemA, add_mk]
    simp [execOp, hρ x _ e0, hρ y _ hy, Instr.storeAt, Instr.sureAddr, storeVar, sizeOf, typeInfo, hii, hsz', Value.cells, hw]
    rw [hst]
    simp
  · unfold Vr at hV ⊢
    rw [setRow_heap w b _ _ e _ hV]
end
end Go.Eng
