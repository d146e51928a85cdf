/- The engine: maps as facts of a frame. The engine: a range over a map that the loop does not write, by frames: the entries come in whatever order. -/
import Derived.Test.YtlpheckjogphmaaPn4
import Derived.MapKept
import Derived.Laws.StructEq
import Derived.Laws.IdiomRangeMap
set_option linter.unusedVariables false
set_option linter.unusedSimpArgs false
set_option linter.unusedSectionVars false
namespace Go.Eng
open Go Go.RowKit
/-- a map's block, by its entries -/
def dpMap (b : Nat) (es : Array MapEntry) (c : Nat) : DP := ⟨fun H => H[b]? = some (.map es c), fun k => k = b,
  fun H k h e => by subst e; exact (Array.getElem?_eq_some_iff.1 h).1, fun H H' hd h => (hd.maps b _ h rfl rfl).trans h⟩
section
variable {P : Program} {N : Fm} {ops : Array Oper} {Q : Exit → Act → World → Prop} {rest : List Oper} {σ : Store} {d : Tmp} {t : TypeId} {pos : String} {af : Array Edge} {S : Nat → Prop} {w0 w w' : World} {L : List VB} {D : List DP}
theorem Fr.map (h : Fr w0 w L D S) {b c : Nat} {es : Array MapEntry} (hm : dpMap b es c ∈ D) : w.heap[b]? = some (.map es c) := h.data _ hm
/-- a map's entries turned -/
theorem Fr.mapUpd {b c c' : Nat} {es es' : Array MapEntry} (hF : Fr w0 w L (dpMap b es c :: D) S) (hb : w0.heap.size ≤ b ∨ S b) (hfree : ∀ x ∈ D, ¬ x.fp b) : Fr w0 (w.putObj b (.map es' c')) L (dpMap b es' c' :: D) S := by
  have hm := hF.map (b := b) (es := es) (c := c) (List.mem_cons_self ..)
  have hlt := (Array.getElem?_eq_some_iff.1 hm).1
  have hne : ∀ v ∈ L, v.b ≠ b := fun v hv e => by
    have h1 := (hF.vars v hv).2
    unfold Vr at h1
    rw [e, hm] at h1
    cases h1
  have hother : ∀ k, k ≠ b → (w.putObj b (.map es' c')).heap[k]? = w.heap[k]? := fun k hk => World.putObj_heap_other hk
  have hsize : (w.putObj b (.map es' c')).heap.size = w.heap.size := World.putObj_size
  refine ⟨⟨hF.exs.os, hF.exs.tape, hF.exs.output, by rw [hsize]; exact hF.exs.size, fun k hk hs => ?_⟩, fun v hv => ⟨(hF.vars v hv).1, ?_⟩, hF.dist, fun x hx => ?_, fun v hv x hx => ?_⟩
  · rw [hother k (fun e => by subst e; exact hb.elim (fun h => absurd h (Nat.not_le_of_gt hk)) hs)]
    exact hF.exs.block k hk hs
  · have h1 := (hF.vars v hv).2
    unfold Vr at h1 ⊢
    rw [hother _ (hne v hv)]; exact h1
  · rcases List.mem_cons.1 hx with rfl | hx
    · unfold dpMap; exact World.putObj_heap_same hlt
    · refine x.st _ _ ⟨Nat.le_of_eq hsize.symm, fun k cs t y hk _ => hother k fun e => ?_, fun k o hk _ hf => hother k fun e => hfree x hx (e ▸ hf)⟩ (hF.data x (List.mem_cons_of_mem _ hx))
      rw [e, hm] at hk; cases hk
  · rcases List.mem_cons.1 hx with rfl | hx
    · unfold dpMap; exact hne v hv
    · exact hF.apart v hv x (List.mem_cons_of_mem _ hx)
end
attribute [irreducible] dpMap
/-! ### Maps by their contents: a list of keys and values, in the order of their entries -/
class UMap (P : Program) (t : TypeId) (k e : outParam TypeId) : Prop where
  out : P.underlying t = some (.map k e)
/-- a type of keys: f x is the key of x -/
class UKey (P : Program) (k : TypeId) (K : outParam Type) (f : outParam (K → Value)) : Prop where
  inj : ∀ x y, f x = f y → x = y
  chk : ∀ b x w, (Instr.checkKey b 10000 k (f x)).run P w = .ok () w
  same : ∀ x, Instr.sameBits 10000 (f x) (f x) = true
  find : ∀ x (es : List MapEntry) (ks : List K) w, es.map (·.key) = ks.map f →
    ((Instr.findKey k (f x) es).run P w = .ok none w ∧ x ∉ ks) ∨ ∃ (i : Nat) (e : MapEntry), (Instr.findKey k (f x) es).run P w = .ok (some (i, e.val)) w ∧ es[i]? = some e ∧ ks[i]? = some x
/-- a place of two numbers -/
def spot (x : Int × Int) : Value := .agg #[.int .i64 x.1, .int .i64 x.2]
theorem spot_inj (x y : Int × Int) (h : spot x = spot y) : x = y := by
  obtain ⟨a, b⟩ := x
  obtain ⟨c, d⟩ := y
  simp [spot] at h
  rw [h.1, h.2]
/-- a struct of two numbers -/
class USpot (P : Program) (k : TypeId) : Prop where
  out : ∃ f g : Field, P.underlying k = some (.struct #[f, g]) ∧ f.name ≠ "_" ∧ g.name ≠ "_" ∧ f.offset = 0 ∧ g.offset = 1 ∧ P.underlying f.type = some (.int .i64) ∧ P.underlying g.type = some (.int .i64) ∧ P.stoodInHeld k = false
theorem run_isAgg_int {P : Program} {t : TypeId} (h : P.underlying t = some (.int .i64)) (w : World) : (isAgg t).run P w = .ok false w := run_isAgg_one ⟨⟨_, h, rfl⟩⟩ w
theorem run_part0 {P : Program} {t : TypeId} (h : P.underlying t = some (.int .i64)) (a b : Value) (w : World) : (part t #[a, b] 0).run P w = .ok a w := by
  simp [part, run_isAgg_int h, Result.andThen]
theorem run_part1 {P : Program} {t : TypeId} (h : P.underlying t = some (.int .i64)) (a b : Value) (w : World) : (part t #[a, b] 1).run P w = .ok b w := by
  simp [part, run_isAgg_int h, Result.andThen]
theorem run_equal_spot {P : Program} {k : TypeId} [h : USpot P k] (x y : Int × Int) (w : World) : (Op.equal k (spot x) (spot y)).run P w = .ok (decide (x = y)) w := by
  obtain ⟨f, g, hu, hf, hg, of, og, uf, ug, hs⟩ := h.out
  have hfs : P.fieldsOf k = #[f, g] := by unfold Program.fieldsOf; rw [hu]
  have h1 := run_equalIn_struct w 9999 k #[.int .i64 x.1, .int .i64 x.2] #[.int .i64 y.1, .int .i64 y.2] (by rw [hfs]; exact hu) hs
  rw [hfs] at h1
  have h2 : (Op.equal k (spot x) (spot y)).run P w = (Op.equalIn (9999 + 1) k (spot x) (spot y)).run P w := rfl
  rw [h2]
  unfold spot
  rw [h1]
  have e1 : (Op.equalIn 9999 f.type (.int .i64 x.1) (.int .i64 y.1)).run P w = .ok (x.1 == y.1) w := run_equalIn_int (P := P) w 9998 f.type .i64 .i64 x.1 y.1 uf
  have e2 : (Op.equalIn 9999 g.type (.int .i64 x.2) (.int .i64 y.2)).run P w = .ok (x.2 == y.2) w := run_equalIn_int (P := P) w 9998 g.type .i64 .i64 x.2 y.2 ug
  obtain ⟨a, b⟩ := x
  obtain ⟨c, d⟩ := y
  simp only at e1 e2
  simp only [Op.eqFields, hf, hg, of, og, Sem.run_bind, run_part0 uf, run_part1 ug, Result.andThen_ok, e1, ne_eq, not_false_eq_true, if_true]
  by_cases ha : a = c
  · subst ha
    by_cases hb : b = d
    · subst hb
      simp [e2, run_part1 ug, Result.andThen]
    · have : (b == d) = false := by simpa using hb
      simp [e2, run_part1 ug, Result.andThen, this, hb]
  · have : (a == c) = false := by simpa using ha
    simp [Result.andThen, this, ha]
theorem run_findAsking_spot {P : Program} {k : TypeId} [h : USpot P k] (x : Int × Int) (w : World) : ∀ (es : List MapEntry) (ks : List (Int × Int)) (n : Nat), es.map (·.key) = ks.map spot →
    ((Instr.findAsking k (spot x) es n).run P w = .ok none w ∧ x ∉ ks) ∨ ∃ (i : Nat) (e : MapEntry), (Instr.findAsking k (spot x) es n).run P w = .ok (some (n + i, e.val)) w ∧ es[i]? = some e ∧ ks[i]? = some x
  | [], [], n, _ => .inl ⟨rfl, by simp⟩
  | [], _ :: _, _, h => by simp at h
  | _ :: _, [], _, h => by simp at h
  | e :: es, y :: ks, n, h => by
    simp only [List.map_cons, List.cons.injEq] at h
    by_cases hx : x = y
    · subst hx
      refine .inr ⟨0, e, ?_, rfl, rfl⟩
      simp [Instr.findAsking, h.1, run_equal_spot, Result.andThen]
    · have hq : (Instr.findAsking k (spot x) (e :: es) n).run P w = (Instr.findAsking k (spot x) es (n + 1)).run P w := by
        simp [Instr.findAsking, h.1, run_equal_spot, Result.andThen, hx]
      rw [hq]
      rcases run_findAsking_spot (P := P) (k := k) x w es ks (n + 1) h.2 with ⟨h1, h2⟩ | ⟨i, e', h1, h2, h3⟩
      · exact .inl ⟨h1, by simp [hx, h2]⟩
      · exact .inr ⟨i + 1, e', by rw [h1, show n + 1 + i = n + (i + 1) by omega], by simpa using h2, by simpa using h3⟩
theorem findNow_spot (fs : Array Field) (x : Int × Int) (e : MapEntry) (es : List MapEntry) : Instr.findNow (.struct fs) (spot x) (e :: es) 0 = none := by
  have : Instr.sameNow (.struct fs) (spot x) e.key = none := by unfold spot Instr.sameNow; cases e.key <;> rfl
  unfold Instr.findNow
  rw [this]
instance {P : Program} {k : TypeId} [h : USpot P k] : UKey P k (Int × Int) spot where
  inj := spot_inj
  chk b x w := by
    obtain ⟨f, g, hu, hf, hg, of, og, uf, ug, hs⟩ := h.out
    have hk : ∀ (t : TypeId) (z : Int), P.underlying t = some (.int .i64) → (Instr.checkKey b 9999 t (.int .i64 z)).run P w = .ok () w := fun t z ht => MapKept.run_checkKey (k := .int .i64 z) ht (show MapKept.IsKey (.int .i64) (.int .i64 z) from rfl) b 9998
    show (Instr.checkKey b (9999 + 1) k (spot x)).run P w = _
    rw [Instr.checkKey]
    simp only [Sem.run_bind, run_underlying hu, Result.andThen_ok, spot]
    rw [← Array.forIn_toList]
    simp only [List.forIn_cons, List.forIn_nil, hf, hg, of, og, Sem.run_bind, run_part0 uf, run_part1 ug, Result.andThen_ok, ne_eq, not_false_eq_true, if_true, hk _ _ uf, hk _ _ ug, Sem.run_pure]
  same x := by
    show Instr.sameBits (9999 + 1) (spot x) (spot x) = true
    simp [spot, Instr.sameBits]
  find x es ks w hks := by
    obtain ⟨f, g, hu, hf, hg, of, og, uf, ug, hs⟩ := h.out
    unfold Instr.findKey
    simp only [Sem.run_bind, run_underlying hu, Result.andThen_ok]
    cases es with
    | nil =>
      cases ks with
      | nil => exact .inl ⟨rfl, by simp⟩
      | cons _ _ => simp at hks
    | cons e es =>
      rw [findNow_spot]
      have := run_findAsking_spot (P := P) (k := k) x w (e :: es) ks 0 hks
      simpa using this
/-- a number -/
def intk (x : Int) : Value := .int .i64 x
instance {P : Program} {k : TypeId} [h : UInt P k .i64] : UKey P k Int intk where
  inj x y h := by simpa [intk] using h
  chk b x w := MapKept.run_checkKey (k := intk x) h.out (show MapKept.IsKey (.int .i64) (.int .i64 x) from rfl) b 9999
  same x := by
    show Instr.sameBits (9999 + 1) (intk x) (intk x) = true
    simp [intk, Instr.sameBits]
  find x es ks w hks := by
    have hk : ∀ y ∈ es, MapKept.IsKey (.int .i64) y.key := fun y hy => by
      have : y.key ∈ es.map (·.key) := List.mem_map.2 ⟨y, hy, rfl⟩
      rw [hks] at this
      obtain ⟨z, _, e⟩ := List.mem_map.1 this
      rw [← e]; rfl
    rcases MapKept.findNow_spec (d := .int .i64) (k := intk x) rfl es 0 hk with ⟨h1, h2⟩ | ⟨j, e, h1, h2, h3⟩
    · refine .inl ⟨MapKept.run_findKey h.out h1, fun hm => ?_⟩
      have : intk x ∈ ks.map intk := List.mem_map.2 ⟨x, hm, rfl⟩
      rw [← hks] at this
      obtain ⟨y, hy, e⟩ := List.mem_map.1 this
      exact h2 y hy e
    · refine .inr ⟨j, e, by rw [MapKept.run_findKey h.out h1, Nat.zero_add], h2, ?_⟩
      have h4 : (es.map (·.key))[j]? = some (intk x) := by rw [List.getElem?_map, h2]; simp [h3]
      rw [hks, List.getElem?_map] at h4
      cases hq : ks[j]? with
      | none => rw [hq] at h4; cases h4
      | some y =>
        rw [hq] at h4
        simp [intk] at h4
        rw [h4]
section
variable {K V : Type} [DecidableEq K]
/-- what stands at a key -/
def lkp : List (K × V) → K → Option V
  | [], _ => none
  | (y, u) :: l, x => if y = x then some u else lkp l x
/-- .. written -/
def ups : List (K × V) → K → V → List (K × V)
  | [], x, v => [(x, v)]
  | (y, u) :: l, x, v => if y = x then (x, v) :: l else (y, u) :: ups l x v
theorem lkp_none : ∀ {l : List (K × V)} {x : K}, lkp l x = none ↔ x ∉ l.map (·.1)
  | [], x => by simp [lkp]
  | (y, u) :: l, x => by
    by_cases h : y = x
    · subst h; simp [lkp]
    · have := lkp_none (l := l) (x := x)
      simp only [lkp, h, if_false, this, List.map_cons, List.mem_cons, not_or]
      exact ⟨fun h1 => ⟨fun e => h e.symm, h1⟩, fun h1 => h1.2⟩
theorem lkp_mem : ∀ {l : List (K × V)} {x : K} {v : V}, lkp l x = some v → (x, v) ∈ l
  | [], x, v, h => by simp [lkp] at h
  | (y, u) :: l, x, v, h => by
    by_cases hy : y = x
    · subst hy; simp [lkp] at h; subst h; exact List.mem_cons_self ..
    · simp only [lkp, hy, if_false] at h
      exact List.mem_cons_of_mem _ (lkp_mem h)
theorem lkp_of_mem : ∀ {l : List (K × V)}, (l.map (·.1)).Nodup → ∀ {x : K} {v : V}, (x, v) ∈ l → lkp l x = some v
  | [], _, x, v, h => by simp at h
  | (y, u) :: l, hn, x, v, h => by
    simp only [List.map_cons, List.nodup_cons] at hn
    rcases List.mem_cons.1 h with h | h
    · cases h; simp [lkp]
    · have hne : y ≠ x := fun e => hn.1 (e ▸ List.mem_map.2 ⟨_, h, rfl⟩)
      simp only [lkp, hne, if_false]
      exact lkp_of_mem hn.2 h
theorem ups_set : ∀ {l : List (K × V)}, (l.map (·.1)).Nodup → ∀ {i : Nat} {x : K}, (l.map (·.1))[i]? = some x → ∀ v, ups l x v = l.set i (x, v)
  | [], _, i, x, h, v => by simp at h
  | (z, u) :: l, hn, 0, x, h, v => by simp at h; subst h; simp [ups]
  | (z, u) :: l, hn, i + 1, x, h, v => by
    simp only [List.map_cons, List.nodup_cons, List.getElem?_cons_succ] at hn h
    have hne : z ≠ x := fun e => hn.1 (e ▸ List.mem_of_getElem? h)
    simp only [ups, hne, if_false, List.set_cons_succ, ups_set hn.2 h v]
theorem ups_new : ∀ {l : List (K × V)} {x : K}, x ∉ l.map (·.1) → ∀ v, ups l x v = l ++ [(x, v)]
  | [], x, _, v => rfl
  | (z, u) :: l, x, h, v => by
    simp only [List.map_cons, List.mem_cons, not_or] at h
    simp only [ups, fun e => h.1 (Eq.symm e), if_false, ups_new h.2 v, List.cons_append]
    rw [if_neg fun e => h.1 e.symm]
theorem lkp_idx : ∀ {l : List (K × V)}, (l.map (·.1)).Nodup → ∀ {i : Nat} {p : K × V}, l[i]? = some p → lkp l p.1 = some p.2
  | l, hn, i, (x, v), h => lkp_of_mem hn (List.mem_of_getElem? h)
end
theorem set_same {α : Type} : ∀ {l : List α} {i : Nat} {x : α}, l[i]? = some x → l.set i x = l
  | [], i, x, h => by simp at h
  | y :: l, 0, x, h => by simp at h; subst h; rfl
  | y :: l, i + 1, x, h => by simp only [List.getElem?_cons_succ] at h; simp only [List.set_cons_succ, set_same h]
/-- a map's entries read as a list -/
structure MpR {K V : Type} (f : K → Value) (g : V → Value) (es : Array MapEntry) (c : Nat) (l : List (K × V)) : Prop where
  map : es.toList.map (fun e => (e.key, e.val)) = l.map (fun p => (f p.1, g p.2))
  born : ∀ x ∈ es.toList, x.born < c
  nodup : (es.toList.map (·.born)).Nodup
  keys : (l.map (·.1)).Nodup
section
variable {K V : Type} {f : K → Value} {g : V → Value} {es : Array MapEntry} {c : Nat} {l : List (K × V)}
theorem MpR.nil (f : K → Value) (g : V → Value) (c : Nat) : MpR f g #[] c [] := ⟨rfl, by simp, by simp, by simp⟩
theorem MpR.len (h : MpR f g es c l) : es.size = l.length := by
  have := congrArg List.length h.map
  simpa using this
theorem MpR.ks (h : MpR f g es c l) : es.toList.map (·.key) = (l.map (·.1)).map f := by
  have := congrArg (List.map Prod.fst) h.map
  simpa [List.map_map, Function.comp_def] using this
theorem MpR.at (h : MpR f g es c l) {i : Nat} {e : MapEntry} (he : es.toList[i]? = some e) : ∃ p, l[i]? = some p ∧ e.key = f p.1 ∧ e.val = g p.2 := by
  have h1 : (es.toList.map (fun e => (e.key, e.val)))[i]? = some (e.key, e.val) := by rw [List.getElem?_map, he]; rfl
  rw [h.map, List.getElem?_map] at h1
  cases hq : l[i]? with
  | none => rw [hq] at h1; cases h1
  | some p =>
    rw [hq] at h1
    simp only [Option.map_some, Option.some.injEq, Prod.mk.injEq] at h1
    exact ⟨p, rfl, h1.1.symm, h1.2.symm⟩
theorem MpR.push (h : MpR f g es c l) {x : K} (hx : x ∉ l.map (·.1)) (v : V) : MpR f g (es.push { key := f x, val := g v, born := c }) (c + 1) (l ++ [(x, v)]) := by
  refine ⟨by simp [h.map], fun y hy => ?_, ?_, ?_⟩
  · simp only [Array.toList_push, List.mem_append, List.mem_singleton] at hy
    rcases hy with hy | rfl
    · exact Nat.lt_succ_of_lt (h.born y hy)
    · exact Nat.lt_succ_self _
  · simp only [Array.toList_push, List.map_append, List.map_cons, List.map_nil]
    refine List.nodup_append.2 ⟨h.nodup, by simp, fun a ha b hb => ?_⟩
    simp only [List.mem_singleton] at hb
    subst hb
    obtain ⟨y, hy, rfl⟩ := List.mem_map.1 ha
    exact Nat.ne_of_lt (h.born y hy)
  · rw [List.map_append]
    refine List.nodup_append.2 ⟨h.keys, by simp, fun a ha b hb e => ?_⟩
    simp only [List.map_cons, List.map_nil, List.mem_singleton] at hb
    subst e hb
    exact hx ha
theorem MpR.mod (h : MpR f g es c l) {i : Nat} {x : K} (hi : (l.map (·.1))[i]? = some x) (v : V) : MpR f g (es.modify i fun e => { e with key := f x, val := g v }) c (l.set i (x, v)) := by
  have hlen := h.len
  have hil : i < l.length := by have := (List.getElem?_eq_some_iff.1 hi).1; simpa using this
  have hset : (es.modify i fun e => { e with key := f x, val := g v }).toList.map (·.born) = es.toList.map (·.born) := by
    refine List.ext_getElem? fun j => ?_
    simp only [List.getElem?_map, Array.getElem?_toList, Array.getElem?_modify]
    by_cases hij : i = j
    · subst hij; cases es[i]? <;> simp
    · simp [hij]
  refine ⟨?_, fun y hy => ?_, by rw [hset]; exact h.nodup, ?_⟩
  · refine List.ext_getElem? fun j => ?_
    have hj : (es.toList.map (fun e => (e.key, e.val)))[j]? = (l.map (fun p => (f p.1, g p.2)))[j]? := by rw [h.map]
    simp only [List.getElem?_map, Array.getElem?_toList, Array.getElem?_modify, List.getElem?_set] at hj ⊢
    by_cases hij : i = j
    · subst hij
      have h1 : i < es.size := by omega
      simp [h1, hil]
    · simp only [hij, if_false]
      exact hj
  · have h1 : y.born ∈ (es.modify i fun e => { e with key := f x, val := g v }).toList.map (·.born) := List.mem_map.2 ⟨y, hy, rfl⟩
    rw [hset] at h1
    obtain ⟨z, hz, e⟩ := List.mem_map.1 h1
    rw [← e]
    exact h.born z hz
  · have : (l.set i (x, v)).map (·.1) = l.map (·.1) := by
      rw [List.map_set]
      exact set_same hi
    rw [this]
    exact h.keys
end
/-- a map's block by its contents -/
def dpMp {K V : Type} (f : K → Value) (g : V → Value) (b : Nat) (l : List (K × V)) : DP := ⟨fun H => ∃ es c, H[b]? = some (.map es c) ∧ MpR f g es c l, fun k => k = b,
  fun H k h e => by subst e; obtain ⟨es, c, h, _⟩ := h; exact (Array.getElem?_eq_some_iff.1 h).1, fun H H' hd h => by obtain ⟨es, c, h, hr⟩ := h; exact ⟨es, c, (hd.maps b _ h rfl rfl).trans h, hr⟩⟩
section
variable {P : Program} {N : Fm} {ops : Array Oper} {Q : Exit → Act → World → Prop} {rest : List Oper} {σ : Store} {d : Tmp} {t : TypeId} {pos : String} {af : Array Edge} {S : Nat → Prop} {w0 w w' : World} {L : List VB} {D : List DP} {gd : Option (Nat × Bool)} {do_ : Option Tmp}
variable {K V : Type} [DecidableEq K] {f : K → Value} {g : V → Value} {b : Nat} {l : List (K × V)}
theorem Fr.mp (h : Fr w0 w L D S) (hm : dpMp f g b l ∈ D) : ∃ es c, w.heap[b]? = some (.map es c) ∧ MpR f g es c l := h.data _ hm
theorem TL.makeMpFr (f : K → Value) (g : V → Value) (hF : Fr w0 w L D S) {ty : TypeId} (hd : Nat.blt d N.n = true)
    (K' : ∀ w' b, b = w.heap.size → Fr w0 w' L (dpMp f g b [] :: D) S → TL P N .seq ops Q rest ((d, .map (some b)) :: σ) w') :
    TL P N .seq ops Q (⟨some d, .makeMap ty none, t, pos, af, none⟩ :: rest) σ w := by
  refine TL.op (w' := w.alloc (.map #[] 0)) (fun ρ hρ => ?_) hd (K' _ _ rfl (hF.addNew (ext_alloc _ _) _ (by unfold dpMp; exact ⟨_, _, heap_alloc .., MpR.nil ..⟩) fun k hk => (by unfold dpMp at hk; exact Nat.le_of_eq hk.symm)))
  simp [execOp, Instr.makeMap]
theorem Fr.mpUpd {l' : List (K × V)} {es es' : Array MapEntry} {c c' : Nat} (hF : Fr w0 w L (dpMp f g b l :: D) S) (hb : w0.heap.size ≤ b ∨ S b) (hfree : ∀ x ∈ D, ¬ x.fp b) (hm : w.heap[b]? = some (.map es c)) (hr : MpR f g es' c' l') :
    Fr w0 (w.putObj b (.map es' c')) L (dpMp f g b l' :: D) S := by
  have h0 : Fr w0 w L (dpMap b es c :: D) S := by
    refine Fr.add (hF.weak (List.Sublist.refl _) fun d hd => List.mem_cons_of_mem _ hd) _ (by unfold dpMap; exact hm) fun v hv hk => ?_
    unfold dpMap at hk
    exact hF.apart v hv _ (List.mem_cons_self ..) (by unfold dpMp; exact hk)
  have h1 := h0.mapUpd (c' := c') (es' := es') hb hfree
  refine Fr.add (h1.weak (List.Sublist.refl _) fun d hd => List.mem_cons_of_mem _ hd) _ (by unfold dpMp; exact ⟨_, _, (by have := h1.map (List.mem_cons_self ..); exact this), hr⟩) fun v hv hk => ?_
  exact hF.apart v hv _ (List.mem_cons_self ..) (by unfold dpMp at hk ⊢; exact hk)
/-- where a key is found -/
theorem run_find {k : TypeId} [hK : UKey P k K f] {es : Array MapEntry} {c : Nat} (h : MpR f g es c l) (x : K) (w : World) :
    ((Instr.findKey k (f x) es.toList).run P w = .ok none w ∧ x ∉ l.map (·.1)) ∨ ∃ i v, (Instr.findKey k (f x) es.toList).run P w = .ok (some (i, g v)) w ∧ l[i]? = some (x, v) ∧ ∃ e, es[i]? = some e ∧ e.key = f x := by
  rcases hK.find x es.toList _ w h.ks with h1 | ⟨i, e, h1, h2, h3⟩
  · exact .inl h1
  · obtain ⟨p, hp, hk, hv⟩ := h.at h2
    rw [List.getElem?_map, hp] at h3
    simp only [Option.map_some, Option.some.injEq] at h3
    obtain ⟨a, v⟩ := p
    simp only at h3 hk hv
    subst h3
    exact .inr ⟨i, v, by rw [h1, hv], hp, e, by simpa using h2, hk⟩
theorem ev_mlook (hF : Fr w0 w L D S) {x i : Operand} {ty k e : TypeId} [hT : UMap P ty k e] [hK : UKey P k K f] {z : Value} {sz b1 : Nat} [hS : USize P e z sz b1] {y : K} (hx : look σ x = some (.map (some b))) (hi : look σ i = some (f y)) (hm : dpMp f g b l ∈ D) :
    Ev P σ w.heap ⟨do_, .lookup ty x i false, t, pos, af, gd⟩ ((lkp l y).elim z g) := by
  unfold Ev
  intro ρ w1 hρ hw
  obtain ⟨es, c, hb, hr⟩ := hF.mp hm
  rw [← hw] at hb
  obtain ⟨ii, hii, hz, _⟩ := hS.info
  rcases run_find (P := P) (k := k) hr y w1 with ⟨h1, h2⟩ | ⟨i', v, h1, h2, _⟩
  · rw [lkp_none.2 h2]
    simp [execOp, hρ x _ hx, hρ i _ hi, Instr.lookup, run_underlying hT.out, MapKept.run_getObj_map hb, hK.chk, h1, Result.andThen, zeroValue, typeInfo, hii, hz]
  · rw [lkp_idx hr.keys h2]
    simp [execOp, hρ x _ hx, hρ i _ hi, Instr.lookup, run_underlying hT.out, MapKept.run_getObj_map hb, hK.chk, h1, Result.andThen]
theorem ev_mlookOk (hF : Fr w0 w L D S) {x i : Operand} {ty k e : TypeId} [hT : UMap P ty k e] [hK : UKey P k K f] {z : Value} {sz b1 : Nat} [hS : USize P e z sz b1] {y : K} (hx : look σ x = some (.map (some b))) (hi : look σ i = some (f y)) (hm : dpMp f g b l ∈ D) :
    Ev P σ w.heap ⟨do_, .lookup ty x i true, t, pos, af, gd⟩ (.tuple #[(lkp l y).elim z g, .bool (lkp l y).isSome]) := by
  unfold Ev
  intro ρ w1 hρ hw
  obtain ⟨es, c, hb, hr⟩ := hF.mp hm
  rw [← hw] at hb
  obtain ⟨ii, hii, hz, _⟩ := hS.info
  rcases run_find (P := P) (k := k) hr y w1 with ⟨h1, h2⟩ | ⟨i', v, h1, h2, _⟩
  · rw [lkp_none.2 h2]
    simp [execOp, hρ x _ hx, hρ i _ hi, Instr.lookup, run_underlying hT.out, MapKept.run_getObj_map hb, hK.chk, h1, Result.andThen, zeroValue, typeInfo, hii, hz]
  · rw [lkp_idx hr.keys h2]
    simp [execOp, hρ x _ hx, hρ i _ hi, Instr.lookup, run_underlying hT.out, MapKept.run_getObj_map hb, hK.chk, h1, Result.andThen]
theorem ev_mlen (hF : Fr w0 w L D S) {x : Operand} {ty k e : TypeId} [hT : UMap P ty k e] (hx : look σ x = some (.map (some b))) (hm : dpMp f g b l ∈ D) :
    Ev P σ w.heap ⟨do_, .call { callee := .builtin .len, args := #[x], argTypes := #[ty] }, t, pos, af, gd⟩ (.int .i64 (l.length : Int)) := by
  unfold Ev
  intro ρ w1 hρ hw
  obtain ⟨es, c, hb, hr⟩ := hF.mp hm
  rw [← hw] at hb
  simp [execOp, hρ x _ hx, resolve, invoke, builtin, Builtin.len_, run_underlying hT.out, goInt, MapKept.run_getObj_map hb, Result.andThen, hr.len]
theorem putObj_eq {w : World} {b : Nat} {o : Obj} : w.putObj b o = { w with heap := w.heap.setIfInBounds b o } := rfl
theorem TL.mupd (hF : Fr w0 w L (dpMp f g b l :: D) S) (hb : w0.heap.size ≤ b ∨ S b) (hfree : ∀ x ∈ D, ¬ x.fp b) {x i y : Operand} {ty k e : TypeId} [hT : UMap P ty k e] [hK : UKey P k K f] {q : K} {v : V}
    (hx : look σ x = some (.map (some b))) (hi : look σ i = some (f q)) (hy : look σ y = some (g v)) (K' : ∀ w', Fr w0 w' L (dpMp f g b (ups l q v) :: D) S → TL P N .seq ops Q rest σ w') :
    TL P N .seq ops Q (⟨none, .mapUpdate ty x i y, t, pos, af, none⟩ :: rest) σ w := by
  obtain ⟨es, c, hm, hr⟩ := hF.mp (List.mem_cons_self ..)
  rcases run_find (P := P) (k := k) hr q w with ⟨h1, h2⟩ | ⟨j, u, h1, h2, en, h3, h4⟩
  · refine TL.op0 (fun ρ hρ => ?_) (K' _ (hF.mpUpd hb hfree hm (by rw [ups_new h2]; exact hr.push h2 v)))
    simp [execOp, hρ x _ hx, hρ i _ hi, hρ y _ hy, Instr.mapUpdate, run_underlying hT.out, MapKept.run_getObj_map hm, hK.chk, h1, Result.andThen, MapKept.run_setObj_map _ hm, putObj_eq]
  · have hj : (l.map (·.1))[j]? = some q := by rw [List.getElem?_map, h2]; rfl
    refine TL.op0 (fun ρ hρ => ?_) (K' _ (hF.mpUpd hb hfree hm (by rw [ups_set hr.keys hj]; exact hr.mod hj v)))
    simp [execOp, hρ x _ hx, hρ i _ hi, hρ y _ hy, Instr.mapUpdate, run_underlying hT.out, MapKept.run_getObj_map hm, hK.chk, h1, h3, h4, Instr.keyThatStays, hK.same, Result.andThen, MapKept.run_setObj_map _ hm, putObj_eq]
end
attribute [irreducible] dpMp

end Go.Eng

set_option linter.unusedSectionVars false
namespace Go.Eng
open Go Go.RowKit

section
variable {P : Program} {N : Fm} {ops : Array Oper} {Q : Exit → Act → World → Prop} {rest : List Oper} {σ : Store} {d : Tmp} {t : TypeId} {pos : String} {af : Array Edge} {S : Nat → Prop} {w0 w w' : World} {L : List VB} {D : List DP} {gd : Option (Nat × Bool)} {do_ : Option Tmp}
variable {K V : Type} [DecidableEq K] {f : K → Value} {g : V → Value} {r b : Nat} {l done todo : List (K × V)}
/-- a block that is none of cells written anew -/
theorem Fr.putO {x y : DP} {o o' : Obj} (hF : Fr w0 w L (x :: D) S) (ho : w.heap[r]? = some o) (hc : o.isCells = false) (hb : w0.heap.size ≤ r ∨ S r) (hfree : ∀ x ∈ D, ¬ x.fp r) (hy : y.p (w.putObj r o').heap) (hyL : ∀ v ∈ L, ¬ y.fp v.b) :
    Fr w0 (w.putObj r o') L (y :: D) S := by
  have hne : ∀ v ∈ L, v.b ≠ r := fun v hv e => by
    have h1 := (hF.vars v hv).2
    unfold Vr at h1
    rw [e, ho] at h1
    cases h1
    cases hc
  have hother : ∀ k, k ≠ r → (w.putObj r o').heap[k]? = w.heap[k]? := fun k hk => World.putObj_heap_other hk
  have hsize : (w.putObj r o').heap.size = w.heap.size := World.putObj_size
  refine ⟨⟨hF.exs.os, hF.exs.tape, hF.exs.output, by rw [hsize]; exact hF.exs.size, fun k hk hs => ?_⟩, fun v hv => ⟨(hF.vars v hv).1, ?_⟩, hF.dist, fun x hx => ?_, fun v hv x hx => ?_⟩
  · rw [hother k (fun e => by subst e; exact hb.elim (fun h => absurd h (Nat.not_le_of_gt hk)) hs)]
    exact hF.exs.block k hk hs
  · have h1 := (hF.vars v hv).2
    unfold Vr at h1 ⊢
    rw [hother _ (hne v hv)]; exact h1
  · rcases List.mem_cons.1 hx with rfl | hx
    · exact hy
    · refine x.st _ _ ⟨Nat.le_of_eq hsize.symm, fun k cs t y hk _ => hother k fun e => ?_, fun k o hk _ hf => hother k fun e => hfree x hx (e ▸ hf)⟩ (hF.data x (List.mem_cons_of_mem _ hx))
      rw [e, ho] at hk
      cases hk
      cases hc
  · rcases List.mem_cons.1 hx with rfl | hx
    · exact hyL v hv
    · exact hF.apart v hv x (List.mem_cons_of_mem _ hx)
end

end Go.Eng
