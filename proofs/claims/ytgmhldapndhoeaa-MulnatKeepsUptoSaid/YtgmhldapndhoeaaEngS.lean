/- The engine, values of several cells: structs, slices of structs. -/
import Derived.Test.YtgmhldapndhoeaaEngD
import Derived.Deep.MidRow
import Derived.Laws.Tables
set_option linter.unusedVariables false
set_option linter.unusedSimpArgs false
namespace Go.Eng
open Go Go.RowKit

/-- n cells from off on -/
def subV (cs : List Value) : Nat → Nat → Option (List Value)
  | _, 0 => some []
  | off, n + 1 => match nthV cs off with
    | some v => match subV cs (off + 1) n with
      | some l => some (v :: l)
      | none => none
    | none => none
theorem subV_eq {cs : List Value} : ∀ {n off : Nat} {l : List Value}, subV cs off n = some l → (cs.drop off).take n = l
  | 0, off, l, h => by simp [subV] at h; simp [h]
  | n + 1, off, l, h => by
    simp only [subV, nthV_eq] at h
    cases hv : cs[off]? with
    | none => rw [hv] at h; simp at h
    | some v =>
      rw [hv] at h
      cases hs : subV cs (off + 1) n with
      | none => rw [hs] at h; simp at h
      | some l' =>
        rw [hs] at h
        simp at h
        subst h
        have hlt := (List.getElem?_eq_some_iff.1 hv).1
        have e := (List.getElem?_eq_some_iff.1 hv).2
        rw [List.drop_eq_getElem_cons hlt, List.take_succ_cons, subV_eq hs, e]
theorem run_isAgg_agg {P : Program} {t : TypeId} (h : UAgg P t) (w : World) : (isAgg t).run P w = .ok true w := by
  obtain ⟨fs, hfs⟩ := h.out
  unfold isAgg
  rw [Sem.run_bind, run_underlying hfs]
  rfl
section
variable {P : Program} {σ : Store} {H : Array Obj} {d : Option Tmp} {t : TypeId} {pos : String} {af : Array Edge} {gd : Option (Nat × Bool)}
/-- a field of one cell -/
theorem ev_field {x : Operand} {tx : TypeId} {f : Nat} {ft off : Nat} [hF : UField P tx f ft off] [hO : UOne P ft] {cs : List Value} {v : Value} (hx : look σ x = some (.agg cs.toArray)) (hv : nthV cs off = some v) :
    Ev P σ H ⟨d, .field tx x f, t, pos, af, gd⟩ v := by
  unfold Ev
  intro ρ w hρ _
  obtain ⟨fs, fd, h1, h2, h3, h4, h5⟩ := hF.out
  subst h3 h4
  rw [nthV_eq] at hv
  simp [execOp, hρ x _ hx, Instr.field, run_underlying h1, h2, asAgg, part, run_isAgg_one hO, hv]
/-- a field that is a struct -/
theorem ev_fieldA {x : Operand} {tx : TypeId} {f : Nat} {ft off : Nat} [hF : UField P tx f ft off] [hA : UAgg P ft] {z : Value} {sz b1 : Nat} [hS : USize P ft z sz b1] {cs cs' : List Value} (hx : look σ x = some (.agg cs.toArray)) (hv : subV cs off sz = some cs') :
    Ev P σ H ⟨d, .field tx x f, t, pos, af, gd⟩ (.agg cs'.toArray) := by
  unfold Ev
  intro ρ w hρ _
  obtain ⟨fs, fd, h1, h2, h3, h4, h5⟩ := hF.out
  subst h3 h4
  obtain ⟨ii, hii, _, hsz, _⟩ := hS.info
  have := subV_eq hv
  simp [execOp, hρ x _ hx, Instr.field, run_underlying h1, h2, asAgg, part, run_isAgg_agg hA, sizeOf, typeInfo, hii, hsz, ← this, List.extract_eq_take_drop]
theorem add_add (a : Addr) (m n : Nat) : (a.add m).add n = a.add (m + n) := by
  unfold Addr.add
  by_cases hm : m = 0 <;> by_cases hn : n = 0 <;> simp_all [Nat.add_assoc]
theorem elemA_add (A : Option Addr) (m n : Nat) : (elemA A m).map (·.add n) = elemA A (m + n) := by
  cases A with
  | none => rfl
  | some a => simp [elemA, add_add]
theorem fieldSize {P : Program} {tx : TypeId} {f ft off : Nat} (hF : UField P tx f ft off) : ∃ fs fd ii, P.underlying tx = some (.struct fs) ∧ fs[f]? = some fd ∧ fd.type = ft ∧ fd.offset = off ∧ P.info? ft = some ii ∧ ii.size ≠ 0 := by
  obtain ⟨fs, fd, h1, h2, h3, h4, h5⟩ := hF.out
  cases hq : P.info? ft with
  | none => rw [hq] at h5; simp at h5
  | some ii =>
    rw [hq] at h5
    refine ⟨fs, fd, ii, h1, h2, h3, h4, rfl, fun h0 => ?_⟩
    simp [h0] at h5
theorem ev_fieldAddr {x : Operand} {tx : TypeId} {f : Nat} {ft off : Nat} [hF : UField P tx f ft off] {b o : Nat} (hx : look σ x = some (.pointer (some ⟨b, o, none⟩))) :
    Ev P σ H ⟨d, .fieldAddr tx x f, t, pos, af, gd⟩ (.pointer (some ⟨b, o + off, none⟩)) := by
  unfold Ev
  intro ρ w hρ _
  obtain ⟨fs, fd, ii, h1, h2, h3, h4, h5, h6⟩ := fieldSize hF
  subst h3 h4
  simp [execOp, hρ x _ hx, Instr.fieldAt, run_underlying h1, h2, Instr.sureAddr, fieldPlace, sizeOf, typeInfo, h5, h6, add_mk]
theorem ev_fieldAddrE {x : Operand} {tx : TypeId} {f : Nat} {ft off : Nat} [hF : UField P tx f ft off] {A : Option Addr} {m : Nat} (hx : look σ x = some (.pointer (elemA A m))) (hA : A.isSome = true) :
    Ev P σ H ⟨d, .fieldAddr tx x f, t, pos, af, gd⟩ (.pointer (elemA A (m + off))) := by
  unfold Ev
  intro ρ w hρ _
  obtain ⟨fs, fd, ii, h1, h2, h3, h4, h5, h6⟩ := fieldSize hF
  subst h3 h4
  cases A with
  | none => simp at hA
  | some a => simp [execOp, hρ x _ hx, Instr.fieldAt, run_underlying h1, h2, Instr.sureAddr, fieldPlace, sizeOf, typeInfo, h5, h6, elemA, add_add]
theorem ev_nilCheck {x : Operand} {a : Addr} (hx : look σ x = some (.pointer (some a))) : Ev P σ H ⟨d, .nilCheck x, t, pos, af, gd⟩ (.pointer (some a)) := by
  unfold Ev
  intro ρ w hρ _
  simp [execOp, hρ x _ hx]
/-- the address of an element of sz cells -/
theorem ev_indexM {x i : Operand} {ty e : TypeId} [hT : USlice P ty e] {z : Value} {sz b1 : Nat} [hS : USize P e z sz b1] {A : Option Addr} {n c : Nat} {k : IntKind} {z0 : Int} {m : Nat} [e0 : IsN z0 m]
    (hx : look σ x = some (.slice A n c)) (hi : look σ i = some (.int k z0)) (h : m < n) (hA : n = 0 ∨ A.isSome = true) : Ev P σ H ⟨d, .indexAddr ty x i, t, pos, af, gd⟩ (.pointer (elemA A (m * sz))) := by
  unfold Ev
  intro ρ w hρ _
  obtain ⟨ii, hii, _, hsz, _⟩ := hS.info
  rw [e0.out] at hi
  have hA' : A.isSome = true := hA.resolve_left (by omega)
  have h1 : (0 : Int) ≤ m ∧ (m : Int) < n := by omega
  cases A with
  | none => simp at hA'
  | some a => simp [execOp, hρ x _ hx, hρ i _ hi, Instr.indexAt, asIntOf, run_underlying hT.out, h1, sizeOf, typeInfo, hii, hsz, elemA]; intro h2; omega
end

/-- a slice that reads as a list of values of k cells; it lies below block B -/
structure Sm {α : Type} (k : Nat) (f : α → List Value) (H : Array Obj) (B : Nat) (A : Option Addr) (n c : Nat) (l : List α) : Prop where
  len : l.length = n
  cap : n ≤ c
  pos : 0 < k
  wid : ∀ x ∈ l, (f x).length = k
  mem : n = 0 ∨ ∃ b o, A = some ⟨b, o, none⟩ ∧ b < B ∧ ∀ j x, l[j]? = some x → ∀ q v, (f x)[q]? = some v → hcell H b (o + (j * k + q)) = some v
section
variable {α : Type} {k : Nat} {f : α → List Value} {w w' : World} {B lo n c : Nat} {A : Option Addr} {l : List α} {t : TypeId}
theorem Sm.in_heap {H : Array Obj} (h : Sm k f H B A n c l) : n = 0 ∨ ∃ b o, A = some ⟨b, o, none⟩ ∧ b < B ∧ b < H.size ∧ ∀ j x, l[j]? = some x → ∀ q v, (f x)[q]? = some v → hcell H b (o + (j * k + q)) = some v := by
  rcases h.mem with h0 | ⟨b, o, e, hlt, hc⟩
  · exact .inl h0
  · rcases Nat.eq_zero_or_pos n with h0 | h0
    · exact .inl h0
    · have hl : 0 < l.length := by have := h.len; omega
      have hw := h.wid l[0] (List.getElem_mem hl)
      have hp := h.pos
      have h1 := hc 0 l[0] (List.getElem?_eq_getElem hl) 0 (f l[0])[0] (List.getElem?_eq_getElem (by omega))
      exact .inr ⟨b, o, e, hlt, hcell_lt h1, hc⟩
theorem Sm.below (hb : Below B w w') (h : Sm k f w.heap B A n c l) : Sm k f w'.heap B A n c l :=
  ⟨h.len, h.cap, h.pos, h.wid, h.mem.imp id fun ⟨b, o, e, hlt, hc⟩ => ⟨b, o, e, hlt, fun j x hx q v hv => (hcell_below hb hlt).trans (hc j x hx q v hv)⟩⟩
theorem Sm.ext (hb : Ext w w') (h : Sm k f w.heap B A n c l) : Sm k f w'.heap B A n c l :=
  ⟨h.len, h.cap, h.pos, h.wid, h.in_heap.imp id fun ⟨b, o, e, hlt, hh, hc⟩ => ⟨b, o, e, hlt, fun j x hx q v hv => (hcell_below hb hh).trans (hc j x hx q v hv)⟩⟩
theorem Sm.undrew {m : Nat} (h : Sm k f w.heap B A n c l) : Sm k f (w.drewN m).heap B A n c l := h
theorem Sm.mono {H : Array Obj} {B' : Nat} (h : Sm k f H B A n c l) (hB : B ≤ B') : Sm k f H B' A n c l :=
  ⟨h.len, h.cap, h.pos, h.wid, h.mem.imp id fun ⟨b, o, e, hlt, hc⟩ => ⟨b, o, e, Nat.lt_of_lt_of_le hlt hB, hc⟩⟩
theorem Sm.some {H : Array Obj} (h : Sm k f H B A n c l) : n = 0 ∨ A.isSome = true := h.mem.imp id fun ⟨b, o, e, _⟩ => by rw [e]; rfl
theorem Sm.isSome {H : Array Obj} (h : Sm k f H B A n c l) {i : Nat} (hi : i < n) : A.isSome = true := h.some.resolve_left (by omega)
theorem Sm.size {H : Array Obj} (h : Sm k f H B A n c l) : Sm k f H H.size A n c l :=
  ⟨h.len, h.cap, h.pos, h.wid, h.in_heap.imp id fun ⟨b, o, e, hlt, hh, hc⟩ => ⟨b, o, e, hh, hc⟩⟩
theorem Sm.nil (hk : 0 < k) (f : α → List Value) (H : Array Obj) (B : Nat) (A : Option Addr) (c : Nat) : Sm k f H B A 0 c [] := ⟨rfl, Nat.zero_le _, hk, fun x hx => (by cases hx), .inl rfl⟩
theorem Sm.take {H : Array Obj} (h : Sm k f H B A n c l) {i m : Nat} (hi : i ≤ n) (hm : i ≤ m) : Sm k f H B A i m (l.take i) :=
  ⟨by rw [List.length_take, h.len]; omega, hm, h.pos, fun x hx => h.wid x (List.mem_of_mem_take hx), by
    rcases h.mem with h0 | ⟨b, o, e, hlt, hc⟩
    · exact .inl (by omega)
    · exact .inr ⟨b, o, e, hlt, fun j x hx => hc j x (by rw [List.getElem?_take] at hx; split at hx <;> first | exact hx | cases hx)⟩⟩
theorem Sm.drop {H : Array Obj} (h : Sm k f H B A n c l) {i m : Nat} (hi : i ≤ n) (hm : n - i ≤ m) : Sm k f H B (elemA A (i * k)) (n - i) m (l.drop i) :=
  ⟨by rw [List.length_drop, h.len], hm, h.pos, fun x hx => h.wid x (List.mem_of_mem_drop hx), by
    rcases h.mem with h0 | ⟨b, o, e, hlt, hc⟩
    · exact .inl (by omega)
    · refine .inr ⟨b, o + i * k, by rw [e]; simp [elemA, add_mk], hlt, fun j x hx q v hv => ?_⟩
      rw [List.getElem?_drop] at hx
      have := hc (i + j) x hx q v hv
      rwa [Nat.add_mul, Nat.add_assoc (i * k), ← Nat.add_assoc] at this⟩
/-- the address of s[i:], of elements of k cells -/
def cutM (k : Nat) (A : Option Addr) (m i : Nat) : Option Addr := if m = i then A else elemA A (i * k)
theorem Sm.dropC {H : Array Obj} (h : Sm k f H B A n c l) {i m m' : Nat} (hi : i ≤ n) (hm : n ≤ m) (hm' : n - i ≤ m') : Sm k f H B (cutM k A m i) (n - i) m' (l.drop i) := by
  unfold cutM
  split
  · subst_vars
    have : n - m = 0 := by omega
    exact ⟨by rw [List.length_drop, h.len], hm', h.pos, fun x hx => h.wid x (List.mem_of_mem_drop hx), .inl this⟩
  · exact h.drop hi hm'
theorem Sm.dropTake {H : Array Obj} (h : Sm k f H B A n c l) {i j m m' : Nat} (hi : i ≤ j) (hj : j ≤ n) (hm : n ≤ m) (hm' : j - i ≤ m') : Sm k f H B (cutM k A m i) (j - i) m' ((l.drop i).take (j - i)) := by
  have h1 := (h.dropC (i := i) (m := m) (m' := m - i) (by omega) hm (by omega)).take (i := j - i) (m := m') (by omega) hm'
  exact h1
end

/-! ### Slices of slices of several cells -/
section
variable {P : Program} {σ : Store} {H : Array Obj} {d : Option Tmp} {t : TypeId} {pos : String} {af : Array Edge} {gd : Option (Nat × Bool)} {x : Operand} {A : Option Addr} {n c : Nat}
theorem ev_slM_h {ty e : TypeId} [hT : USlice P ty e] {z : Value} {sz b1 : Nat} [hS : USize P e z sz b1] {y : Operand} {k : IntKind} {z1 : Int} {h : Nat} [e1 : IsN z1 h] (hx : look σ x = some (.slice A n c)) (hy : look σ y = some (.int k z1)) (hh : h ≤ c) :
    Ev P σ H ⟨d, .slice ty x none (some y) none, t, pos, af, gd⟩ (.slice A h c) := by
  unfold Ev
  intro ρ w hρ _
  obtain rfl := e1.out
  have hb : (Instr.sliceBounds true n c none (some (.int k (h : Int))) none).run P w = .ok (0, h, c) w := by simp [Instr.sliceBounds, run_bound hh]
  have e0 : (if c = 0 then A else A.map (·.add (0 * sz))) = A := by
    split
    · rfl
    · cases A <;> simp [Addr.add]
  simp only [execOp, hρ x _ hx, hρ y _ hy, Option.map_none, Option.map_some, Sem.run_bind, run_slice_gen (ty := ty) (e := e) (A := A) hb, Result.andThen_ok, Sem.run_pure, e0, Nat.sub_zero]
theorem ev_slM_hm {ty e : TypeId} [hT : USlice P ty e] {z : Value} {sz b1 : Nat} [hS : USize P e z sz b1] {y u : Operand} {k k' : IntKind} {z1 z2 : Int} {h m : Nat} [e1 : IsN z1 h] [e2 : IsN z2 m] (hx : look σ x = some (.slice A n c)) (hy : look σ y = some (.int k z1)) (hu : look σ u = some (.int k' z2)) (hh : h ≤ m) (hm : m ≤ c) :
    Ev P σ H ⟨d, .slice ty x none (some y) (some u), t, pos, af, gd⟩ (.slice A h m) := by
  unfold Ev
  intro ρ w hρ _
  obtain rfl := e1.out
  obtain rfl := e2.out
  have hb : (Instr.sliceBounds true n c none (some (.int k (h : Int))) (some (.int k' (m : Int)))).run P w = .ok (0, h, m) w := by simp [Instr.sliceBounds, run_bound hh, run_bound hm]
  have e0 : (if m = 0 then A else A.map (·.add (0 * sz))) = A := by
    split
    · rfl
    · cases A <;> simp [Addr.add]
  simp only [execOp, hρ x _ hx, hρ y _ hy, hρ u _ hu, Option.map_none, Option.map_some, Sem.run_bind, run_slice_gen (ty := ty) (e := e) (A := A) hb, Result.andThen_ok, Sem.run_pure, e0, Nat.sub_zero]
theorem ev_slM_l {ty e : TypeId} [hT : USlice P ty e] {z : Value} {sz b1 : Nat} [hS : USize P e z sz b1] {y : Operand} {k : IntKind} {z1 : Int} {l : Nat} [e1 : IsN z1 l] (hx : look σ x = some (.slice A n c)) (hy : look σ y = some (.int k z1)) (hl : l ≤ n) (hn : n ≤ c) :
    Ev P σ H ⟨d, .slice ty x (some y) none none, t, pos, af, gd⟩ (.slice (cutM sz A c l) (n - l) (c - l)) := by
  unfold Ev
  intro ρ w hρ _
  obtain rfl := e1.out
  have hb : (Instr.sliceBounds true n c (some (.int k (l : Int))) none none).run P w = .ok (l, n, c) w := by simp [Instr.sliceBounds, run_bound hl]
  simp only [execOp, hρ x _ hx, hρ y _ hy, Option.map_none, Option.map_some, Sem.run_bind, run_slice_gen (ty := ty) (e := e) (A := A) hb, Result.andThen_ok, Sem.run_pure, cutM, elemA]
theorem ev_slM_lh {ty e : TypeId} [hT : USlice P ty e] {z : Value} {sz b1 : Nat} [hS : USize P e z sz b1] {y u : Operand} {k k' : IntKind} {z1 z2 : Int} {l h : Nat} [e1 : IsN z1 l] [e2 : IsN z2 h] (hx : look σ x = some (.slice A n c)) (hy : look σ y = some (.int k z1)) (hu : look σ u = some (.int k' z2)) (hl : l ≤ h) (hn : h ≤ c) :
    Ev P σ H ⟨d, .slice ty x (some y) (some u) none, t, pos, af, gd⟩ (.slice (cutM sz A c l) (h - l) (c - l)) := by
  unfold Ev
  intro ρ w hρ _
  obtain rfl := e1.out
  obtain rfl := e2.out
  have hb : (Instr.sliceBounds true n c (some (.int k (l : Int))) (some (.int k' (h : Int))) none).run P w = .ok (l, h, c) w := by simp [Instr.sliceBounds, run_bound hl, run_bound hn]
  simp only [execOp, hρ x _ hx, hρ y _ hy, hρ u _ hu, Option.map_none, Option.map_some, Sem.run_bind, run_slice_gen (ty := ty) (e := e) (A := A) hb, Result.andThen_ok, Sem.run_pure, cutM, elemA]
/-- an element that is a struct -/
theorem ev_loadM {x : Operand} {ty : TypeId} [hA : UAgg P ty] {z : Value} {sz b1 : Nat} [hS : USize P ty z sz b1] {α : Type} {f : α → List Value} {B n c i : Nat} {A : Option Addr} {l : List α} {y : α}
    (hx : look σ x = some (.pointer (elemA A (i * sz)))) (hs : Sm sz f H B A n c l) (hy : l[i]? = some y) : Ev P σ H ⟨d, .load ty x, t, pos, af, gd⟩ (.agg (f y).toArray) := by
  unfold Ev
  intro ρ w hρ hH
  have hi := (List.getElem?_eq_some_iff.1 hy).1
  have hlen := hs.len
  rcases hs.mem with h0 | ⟨b, o, rfl, _, hc⟩
  · omega
  · obtain ⟨fs, hfs⟩ := hA.out
    obtain ⟨ii, hii, _, hsz, _⟩ := hS.info
    have hw := hs.wid y (List.mem_of_getElem? hy)
    have hr : w.rangeAt b (o + i * sz) (f y) := fun q v hv => by
      rw [cell_of_hcell, hH, Nat.add_assoc]
      exact hc i y hy q v hv
    have := run_loadAt_mid (P := P) w b (o + i * sz) ty (f y) _ hr hfs rfl (by rw [hii]; simp [hsz, hw])
    have e : look σ x = some (.pointer (some ⟨b, o + i * sz, none⟩)) := by rw [hx]; simp [elemA, add_mk]
    simp [execOp, hρ x _ e, this]
/-- a field, of one cell, of an element -/
theorem ev_loadMF {x : Operand} {ty : TypeId} [hO : UOne P ty] {sz off : Nat} {α : Type} {f : α → List Value} {B n c i : Nat} {A : Option Addr} {l : List α} {y : α} {v : Value}
    (hx : look σ x = some (.pointer (elemA A (i * sz + off)))) (hs : Sm sz f H B A n c l) (hy : l[i]? = some y) (hv : nthV (f y) off = some v) : Ev P σ H ⟨d, .load ty x, t, pos, af, gd⟩ v := by
  have hi := (List.getElem?_eq_some_iff.1 hy).1
  have hlen := hs.len
  rw [nthV_eq] at hv
  rcases hs.mem with h0 | ⟨b, o, rfl, _, hc⟩
  · omega
  · exact ev_load (b := b) (i := o + (i * sz + off)) (by rw [hx]; simp [elemA, add_mk]) (hc i y hy off v hv)
end

/-! ### A struct made -/
class UStruct (P : Program) (t : TypeId) (pl : outParam (List (Nat × Nat))) : Prop where
  out : ∃ fs : Array Field, P.underlying t = some (.struct fs) ∧ fs.toList.mapM (fun f => (P.info? f.type).map fun i => (f.offset, i.size)) = some pl
/-- vs over cs from off on -/
def putV : List Value → Nat → List Value → List Value
  | cs, _, [] => cs
  | [], _, _ => []
  | c :: cs, 0, v :: vs => v :: putV cs 0 vs
  | c :: cs, off + 1, v :: vs => c :: putV cs off (v :: vs)
theorem putV_nil (off : Nat) : ∀ cs : List Value, putV cs off [] = cs
  | [] => by simp [putV]
  | c :: cs => by simp [putV]
theorem putV_length : ∀ (cs : List Value) (off : Nat) (vs : List Value), (putV cs off vs).length = cs.length
  | cs, off, [] => by rw [putV_nil]
  | [], off, v :: vs => by simp [putV]
  | c :: cs, 0, v :: vs => by simp [putV, putV_length cs 0 vs]
  | c :: cs, off + 1, v :: vs => by simp [putV, putV_length cs off (v :: vs)]
theorem putV_get : ∀ (cs : List Value) (off : Nat) (vs : List Value) (j : Nat), (putV cs off vs)[j]? = if off ≤ j ∧ j < off + vs.length ∧ j < cs.length then vs[j - off]? else cs[j]?
  | cs, off, [], j => by rw [putV_nil, if_neg]; simp; omega
  | [], off, v :: vs, j => by simp [putV]
  | c :: cs, 0, v :: vs, 0 => by simp [putV]
  | c :: cs, 0, v :: vs, j + 1 => by
    simp only [putV, List.getElem?_cons_succ, putV_get cs 0 vs j, List.length_cons]
    simp only [Nat.zero_le, true_and, Nat.zero_add, Nat.sub_zero, Nat.add_lt_add_iff_right, List.getElem?_cons_succ]
  | c :: cs, off + 1, v :: vs, 0 => by simp [putV]
  | c :: cs, off + 1, v :: vs, j + 1 => by
    simp only [putV, List.getElem?_cons_succ, putV_get cs off (v :: vs) j, List.length_cons]
    have : (off + 1 ≤ j + 1 ∧ j + 1 < off + 1 + (vs.length + 1) ∧ j + 1 < cs.length + 1) ↔ (off ≤ j ∧ j < off + (vs.length + 1) ∧ j < cs.length) := by omega
    simp only [this, Nat.add_sub_add_right]
theorem foldl_put (vs : List Value) (i : Nat) (off : Nat) (cs : Array Value) :
    ((vs.zipIdx i).foldl (fun (cs : Array Value) (p : Value × Nat) => cs.setIfInBounds (off + p.2) p.1) cs).toList = putV cs.toList (off + i) vs := by
  induction vs generalizing i cs with
  | nil => simp [putV_nil]
  | cons v vs ih =>
    simp only [List.zipIdx_cons, List.foldl_cons, ih]
    apply List.ext_getElem?
    intro j
    simp only [putV_get, Array.toList_setIfInBounds, List.length_set, List.length_cons, List.getElem?_set]
    by_cases h1 : off + i = j
    · subst h1
      by_cases h2 : off + i < cs.toList.length
      · have e1 : ¬ (off + (i + 1) ≤ off + i ∧ off + i < off + (i + 1) + vs.length ∧ off + i < cs.toList.length) := by omega
        have e2 : off + i ≤ off + i ∧ off + i < off + i + (vs.length + 1) ∧ off + i < cs.toList.length := by omega
        rw [if_neg e1, if_pos e2]
        simp_all
      · have e1 : ¬ (off + (i + 1) ≤ off + i ∧ off + i < off + (i + 1) + vs.length ∧ off + i < cs.toList.length) := by omega
        have e2 : ¬ (off + i ≤ off + i ∧ off + i < off + i + (vs.length + 1) ∧ off + i < cs.toList.length) := by omega
        rw [if_neg e1, if_neg e2]
        simp_all
    · have : (off + (i + 1) ≤ j ∧ j < off + (i + 1) + vs.length ∧ j < cs.toList.length) ↔ (off + i ≤ j ∧ j < off + i + (vs.length + 1) ∧ j < cs.toList.length) := by omega
      simp only [this, h1, if_false]
      split
      · rename_i h2
        rw [show j - (off + i) = (j - (off + (i + 1))) + 1 by omega, List.getElem?_cons_succ]
      · rfl
/-- the parts of a struct put over its zero -/
def fillV (pl : List (Nat × Nat)) : List Value → List (Nat × Value) → Option (List Value)
  | cs, [] => some cs
  | cs, (i, v) :: rest => match pl[i]? with
    | none => none
    | some (off, size) => if Nat.beq v.cells.toList.length size && Nat.ble (off + size) cs.length then fillV pl (putV cs off v.cells.toList) rest else none
theorem fillV_eq {pl : List (Nat × Nat)} : ∀ (parts : List (Nat × Value)) (cs r : List Value), fillV pl cs parts = some r → Instr.fill (fun i => pl[i]?) cs.toArray parts = some r.toArray
  | [], cs, r, h => by simp [fillV] at h; simp [Instr.fill, h]
  | (i, v) :: rest, cs, r, h => by
    simp only [fillV] at h
    cases hp : pl[i]? with
    | none => rw [hp] at h; simp at h
    | some os =>
      obtain ⟨off, size⟩ := os
      rw [hp] at h
      simp only at h
      split at h
      · rename_i hb
        simp only [Bool.and_eq_true, Nat.beq_eq, Nat.ble_eq, Array.length_toList] at hb
        have := fillV_eq rest _ r h
        simp only [Instr.fill, hp]
        have e1 : ¬ (v.cells.size ≠ size ∨ off + v.cells.size > cs.toArray.size) := by simp; omega
        rw [if_neg (by simpa using e1)]
        have e2 : Array.foldl (fun (cs : Array Value) (p : Value × Nat) => cs.setIfInBounds (off + p.2) p.1) cs.toArray v.cells.zipIdx = (putV cs off v.cells.toList).toArray := by
          apply Array.ext'
          have := foldl_put v.cells.toList 0 off cs.toArray
          simp only [Nat.add_zero] at this
          rw [← this]
          rw [← Array.foldl_toList, Array.toList_zipIdx]
        rw [e2]
        exact this
      · cases h
section
variable {P : Program} {σ : Store} {H : Array Obj} {d : Option Tmp} {t : TypeId} {pos : String} {af : Array Edge} {gd : Option (Nat × Bool)}
def looksP (σ : Store) : List (Nat × Operand) → Option (List (Nat × Value))
  | [] => some []
  | (i, x) :: xs => match look σ x with
    | some v => match looksP σ xs with
      | some vs => some ((i, v) :: vs)
      | none => none
    | none => none
theorem looksP_eq {ρ : Operand → Value} (h : Agree σ ρ) : ∀ (xs : List (Nat × Operand)) (vs : List (Nat × Value)), looksP σ xs = some vs → xs.map (fun p => (p.1, ρ p.2)) = vs
  | [], vs, e => by simp [looksP] at e; simp [e]
  | (i, x) :: xs, vs, e => by
    simp only [looksP] at e
    cases hx : look σ x with
    | none => rw [hx] at e; simp at e
    | some v =>
      rw [hx] at e
      cases hxs : looksP σ xs with
      | none => rw [hxs] at e; simp at e
      | some us =>
        rw [hxs] at e
        simp at e
        subst e
        rw [List.map_cons, h x v hx, looksP_eq h xs us hxs]
theorem ev_build {ty : TypeId} {pl : List (Nat × Nat)} [hU : UStruct P ty pl] {z : List Value} {sz b1 : Nat} [hS : USize P ty (.agg z.toArray) sz b1] {parts : List (Nat × Operand)} {vs : List (Nat × Value)} {r : List Value}
    (hp : looksP σ parts = some vs) (hr : fillV pl z vs = some r) : Ev P σ H ⟨d, .build ty parts.toArray, t, pos, af, gd⟩ (.agg r.toArray) := by
  unfold Ev
  intro ρ w hρ _
  obtain ⟨fs, h1, h2⟩ := hU.out
  obtain ⟨ii, hii, hz, hsz, _⟩ := hS.info
  have e1 := looksP_eq hρ _ _ hp
  have e2 := fillV_eq vs z r hr
  have e3 : P.built ty vs = some r.toArray := by
    unfold Program.built
    simp only [hii, h1, hz, h2, List.getElem?_toArray]
    exact e2
  have e4 : (parts.toArray.map fun (p : Nat × Operand) => (p.1, ρ p.2)).toList = vs := by simp [← e1]
  have e5 := _root_.Go.run_build (P := P) w ty (parts.toArray.map fun (p : Nat × Operand) => (p.1, ρ p.2)) r.toArray (by rw [e4]; exact e3)
  simp only [execOp, Sem.run_bind, e5, Result.andThen_ok, Sem.run_pure]
end
end Go.Eng
