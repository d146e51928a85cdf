/- The engine: maps as facts of a frame. The engine: a range over a map that the loop does not write, by frames: the entries come in whatever order. The types and functions of this translation, as the engine asks for them. The map types of this translation. The struct types of this translation. -/
import Derived.Test.YtlpheckjogphmaaPr4
import Derived.MapKept
import Derived.Laws.StructEq
import Derived.Laws.IdiomRangeMap
import Derived.Test.YtlpheckjogphmaaProg
import Derived.Test.YtlpheckjogphmaaPr2
import Derived.Test.YtlpheckjogphmaaPr3
set_option linter.unusedVariables false
set_option linter.unusedSimpArgs false
set_option linter.unusedSectionVars false
namespace Go.Eng
open Go Go.RowKit
/-- a map's block, by its entries -/
def dpMap (b : Nat) (es : Array MapEntry) (c : Nat) : DP := ⟨fun H => H[b]? = some (.map es c), fun k => k = b,
  fun H k h e => by subst e; exact (Array.getElem?_eq_some_iff.1 h).1, fun H H' hd h => (hd.maps b _ h rfl rfl).trans h⟩
section
variable {P : Program} {N : Fm} {ops : Array Oper} {Q : Exit → Act → World → Prop} {rest : List Oper} {σ : Store} {d : Tmp} {t : TypeId} {pos : String} {af : Array Edge} {S : Nat → Prop} {w0 w w' : World} {L : List VB} {D : List DP}
theorem Fr.map (h : Fr w0 w L D S) {b c : Nat} {es : Array MapEntry} (hm : dpMap b es c ∈ D) : w.heap[b]? = some (.map es c) := h.data _ hm
/-- a map's entries turned -/
theorem Fr.mapUpd {b c c' : Nat} {es es' : Array MapEntry} (hF : Fr w0 w L (dpMap b es c :: D) S) (hb : w0.heap.size ≤ b ∨ S b) (hfree : ∀ x ∈ D, ¬ x.fp b) : Fr w0 (w.putObj b (.map es' c')) L (dpMap b es' c' :: D) S := by
  have hm := hF.map (b := b) (es := es) (c := c) (List.mem_cons_self ..)
  have hlt := (Array.getElem?_eq_some_iff.1 hm).1
  have hne : ∀ v ∈ L, v.b ≠ b := fun v hv e => by
    have h1 := (hF.vars v hv).2
    unfold Vr at h1
    rw [e, hm] at h1
    cases h1
  have hother : ∀ k, k ≠ b → (w.putObj b (.map es' c')).heap[k]? = w.heap[k]? := fun k hk => World.putObj_heap_other hk
  have hsize : (w.putObj b (.map es' c')).heap.size = w.heap.size := World.putObj_size
  refine ⟨⟨hF.exs.os, hF.exs.tape, hF.exs.output, by rw [hsize]; exact hF.exs.size, fun k hk hs => ?_⟩, fun v hv => ⟨(hF.vars v hv).1, ?_⟩, hF.dist, fun x hx => ?_, fun v hv x hx => ?_⟩
  · rw [hother k (fun e => by subst e; exact hb.elim (fun h => absurd h (Nat.not_le_of_gt hk)) hs)]
    exact hF.exs.block k hk hs
  · have h1 := (hF.vars v hv).2
    unfold Vr at h1 ⊢
    rw [hother _ (hne v hv)]; exact h1
  · rcases List.mem_cons.1 hx with rfl | hx
    · unfold dpMap; exact World.putObj_heap_same hlt
    · refine x.st _ _ ⟨Nat.le_of_eq hsize.symm, fun k cs t y hk _ => hother k fun e => ?_, fun k o hk _ hf => hother k fun e => hfree x hx (e ▸ hf)⟩ (hF.data x (List.mem_cons_of_mem _ hx))
      rw [e, hm] at hk; cases hk
  · rcases List.mem_cons.1 hx with rfl | hx
    · unfold dpMap; exact hne v hv
    · exact hF.apart v hv x (List.mem_cons_of_mem _ hx)
end
attribute [irreducible] dpMap
/-! ### Maps by their contents: a list of keys and values, in the order of their entries -/
class UMap (P : Program) (t : TypeId) (k e : outParam TypeId) : Prop where
  out : P.underlying t = some (.map k e)
/-- a type of keys: f x is the key of x -/
class UKey (P : Program) (k : TypeId) (K : outParam Type) (f : outParam (K → Value)) : Prop where
  inj : ∀ x y, f x = f y → x = y
  chk : ∀ b x w, (Instr.checkKey b 10000 k (f x)).run P w = .ok () w
  same : ∀ x, Instr.sameBits 10000 (f x) (f x) = true
  find : ∀ x (es : List MapEntry) (ks : List K) w, es.map (·.key) = ks.map f →
    ((Instr.findKey k (f x) es).run P w = .ok none w ∧ x ∉ ks) ∨ ∃ (i : Nat) (e : MapEntry), (Instr.findKey k (f x) es).run P w = .ok (some (i, e.val)) w ∧ es[i]? = some e ∧ ks[i]? = some x
/-- a place of two numbers -/
def spot (x : Int × Int) : Value := .agg #[.int .i64 x.1, .int .i64 x.2]
theorem spot_inj (x y : Int × Int) (h : spot x = spot y) : x = y := by
  obtain ⟨a, b⟩ := x
  obtain ⟨c, d⟩ := y
  simp [spot] at h
  rw [h.1, h.2]
/-- a struct of two numbers -/
class USpot (P : Program) (k : TypeId) : Prop where
  out : ∃ f g : Field, P.underlying k = some (.struct #[f, g]) ∧ f.name ≠ "_" ∧ g.name ≠ "_" ∧ f.offset = 0 ∧ g.offset = 1 ∧ P.underlying f.type = some (.int .i64) ∧ P.underlying g.type = some (.int .i64) ∧ P.stoodInHeld k = false
theorem run_isAgg_int {P : Program} {t : TypeId} (h : P.underlying t = some (.int .i64)) (w : World) : (isAgg t).run P w = .ok false w := run_isAgg_one ⟨⟨_, h, rfl⟩⟩ w
theorem run_part0 {P : Program} {t : TypeId} (h : P.underlying t = some (.int .i64)) (a b : Value) (w : World) : (part t #[a, b] 0).run P w = .ok a w := by
  simp [part, run_isAgg_int h, Result.andThen]
theorem run_part1 {P : Program} {t : TypeId} (h : P.underlying t = some (.int .i64)) (a b : Value) (w : World) : (part t #[a, b] 1).run P w = .ok b w := by
  simp [part, run_isAgg_int h, Result.andThen]
theorem run_equal_spot {P : Program} {k : TypeId} [h : USpot P k] (x y : Int × Int) (w : World) : (Op.equal k (spot x) (spot y)).run P w = .ok (decide (x = y)) w := by
  obtain ⟨f, g, hu, hf, hg, of, og, uf, ug, hs⟩ := h.out
  have hfs : P.fieldsOf k = #[f, g] := by unfold Program.fieldsOf; rw [hu]
  have h1 := run_equalIn_struct w 9999 k #[.int .i64 x.1, .int .i64 x.2] #[.int .i64 y.1, .int .i64 y.2] (by rw [hfs]; exact hu) hs
  rw [hfs] at h1
  have h2 : (Op.equal k (spot x) (spot y)).run P w = (Op.equalIn (9999 + 1) k (spot x) (spot y)).run P w := rfl
  rw [h2]
  unfold spot
  rw [h1]
  have e1 : (Op.equalIn 9999 f.type (.int .i64 x.1) (.int .i64 y.1)).run P w = .ok (x.1 == y.1) w := run_equalIn_int (P := P) w 9998 f.type .i64 .i64 x.1 y.1 uf
  have e2 : (Op.equalIn 9999 g.type (.int .i64 x.2) (.int .i64 y.2)).run P w = .ok (x.2 == y.2) w := run_equalIn_int (P := P) w 9998 g.type .i64 .i64 x.2 y.2 ug
  obtain ⟨a, b⟩ := x
  obtain ⟨c, d⟩ := y
  simp only at e1 e2
  simp only [Op.eqFields, hf, hg, of, og, Sem.run_bind, run_part0 uf, run_part1 ug, Result.andThen_ok, e1, ne_eq, not_false_eq_true, if_true]
  by_cases ha : a = c
  · subst ha
    by_cases hb : b = d
    · subst hb
      simp [e2, run_part1 ug, Result.andThen]
    · have : (b == d) = false := by simpa using hb
      simp [e2, run_part1 ug, Result.andThen, this, hb]
  · have : (a == c) = false := by simpa using ha
    simp [Result.andThen, this, ha]
theorem run_findAsking_spot {P : Program} {k : TypeId} [h : USpot P k] (x : Int × Int) (w : World) : ∀ (es : List MapEntry) (ks : List (Int × Int)) (n : Nat), es.map (·.key) = ks.map spot →
    ((Instr.findAsking k (spot x) es n).run P w = .ok none w ∧ x ∉ ks) ∨ ∃ (i : Nat) (e : MapEntry), (Instr.findAsking k (spot x) es n).run P w = .ok (some (n + i, e.val)) w ∧ es[i]? = some e ∧ ks[i]? = some x
  | [], [], n, _ => .inl ⟨rfl, by simp⟩
  | [], _ :: _, _, h => by simp at h
  | _ :: _, [], _, h => by simp at h
  | e :: es, y :: ks, n, h => by
    simp only [List.map_cons, List.cons.injEq] at h
    by_cases hx : x = y
    · subst hx
      refine .inr ⟨0, e, ?_, rfl, rfl⟩
      simp [Instr.findAsking, h.1, run_equal_spot, Result.andThen]
    · have hq : (Instr.findAsking k (spot x) (e :: es) n).run P w = (Instr.findAsking k (spot x) es (n + 1)).run P w := by
        simp [Instr.findAsking, h.1, run_equal_spot, Result.andThen, hx]
      rw [hq]
      rcases run_findAsking_spot (P := P) (k := k) x w es ks (n + 1) h.2 with ⟨h1, h2⟩ | ⟨i, e', h1, h2, h3⟩
      · exact .inl ⟨h1, by simp [hx, h2]⟩
      · exact .inr ⟨i + 1, e', by rw [h1, show n + 1 + i = n + (i + 1) by omega], by simpa using h2, by simpa using h3⟩
theorem findNow_spot (fs : Array Field) (x : Int × Int) (e : MapEntry) (es : List MapEntry) : Instr.findNow (.struct fs) (spot x) (e :: es) 0 = none := by
  have : Instr.sameNow (.struct fs) (spot x) e.key = none := by unfold spot Instr.sameNow; cases e.key <;> rfl
  unfold Instr.findNow
  rw [this]
instance {P : Program} {k : TypeId} [h : USpot P k] : UKey P k (Int × Int) spot where
  inj := spot_inj
  chk b x w := by
    obtain ⟨f, g, hu, hf, hg, of, og, uf, ug, hs⟩ := h.out
    have hk : ∀ (t : TypeId) (z : Int), P.underlying t = some (.int .i64) → (Instr.checkKey b 9999 t (.int .i64 z)).run P w = .ok () w := fun t z ht => MapKept.run_checkKey (k := .int .i64 z) ht (show MapKept.IsKey (.int .i64) (.int .i64 z) from rfl) b 9998
    show (Instr.checkKey b (9999 + 1) k (spot x)).run P w = _
    rw [Instr.checkKey]
    simp only [Sem.run_bind, run_underlying hu, Result.andThen_ok, spot]
    rw [← Array.forIn_toList]
    simp only [List.forIn_cons, List.forIn_nil, hf, hg, of, og, Sem.run_bind, run_part0 uf, run_part1 ug, Result.andThen_ok, ne_eq, not_false_eq_true, if_true, hk _ _ uf, hk _ _ ug, Sem.run_pure]
  same x := by
    show Instr.sameBits (9999 + 1) (spot x) (spot x) = true
    simp [spot, Instr.sameBits]
  find x es ks w hks := by
    obtain ⟨f, g, hu, hf, hg, of, og, uf, ug, hs⟩ := h.out
    unfold Instr.findKey
    simp only [Sem.run_bind, run_underlying hu, Result.andThen_ok]
    cases es with
    | nil =>
      cases ks with
      | nil => exact .inl ⟨rfl, by simp⟩
      | cons _ _ => simp at hks
    | cons e es =>
      rw [findNow_spot]
      have := run_findAsking_spot (P := P) (k := k) x w (e :: es) ks 0 hks
      simpa using this
/-- a number -/
def intk (x : Int) : Value := .int .i64 x
instance {P : Program} {k : TypeId} [h : UInt P k .i64] : UKey P k Int intk where
  inj x y h := by simpa [intk] using h
  chk b x w := MapKept.run_checkKey (k := intk x) h.out (show MapKept.IsKey (.int .i64) (.int .i64 x) from rfl) b 9999
  same x := by
    show Instr.sameBits (9999 + 1) (intk x) (intk x) = true
    simp [intk, Instr.sameBits]
  find x es ks w hks := by
    have hk : ∀ y ∈ es, MapKept.IsKey (.int .i64) y.key := fun y hy => by
      have : y.key ∈ es.map (·.key) := List.mem_map.2 ⟨y, hy, rfl⟩
      rw [hks] at this
      obtain ⟨z, _, e⟩ := List.mem_map.1 this
      rw [← e]; rfl
    rcases MapKept.findNow_spec (d := .int .i64) (k := intk x) rfl es 0 hk with ⟨h1, h2⟩ | ⟨j, e, h1, h2, h3⟩
    · refine .inl ⟨MapKept.run_findKey h.out h1, fun hm => ?_⟩
      have : intk x ∈ ks.map intk := List.mem_map.2 ⟨x, hm, rfl⟩
      rw [← hks] at this
      obtain ⟨y, hy, e⟩ := List.mem_map.1 this
      exact h2 y hy e
    · refine .inr ⟨j, e, by rw [MapKept.run_findKey h.out h1, Nat.zero_add], h2, ?_⟩
      have h4 : (es.map (·.key))[j]? = some (intk x) := by rw [List.getElem?_map, h2]; simp [h3]
      rw [hks, List.getElem?_map] at h4
      cases hq : ks[j]? with
      | none => rw [hq] at h4; cases h4
      | some y =>
        rw [hq] at h4
        simp [intk] at h4
        rw [h4]
section
variable {K V : Type} [DecidableEq K]
/-- what stands at a key -/
def lkp : List (K × V) → K → Option V
  | [], _ => none
  | (y, u) :: l, x => if y = x then some u else lkp l x
/-- .. written -/
def ups : List (K × V) → K → V → List (K × V)
  | [], x, v => [(x, v)]
  | (y, u) :: l, x, v => if y = x then (x, v) :: l else (y, u) :: ups l x v
/-- .. taken away -/
def del : List (K × V) → K → List (K × V)
  | [], _ => []
  | (y, u) :: l, x => if y = x then l else (y, u) :: del l x
theorem lkp_none : ∀ {l : List (K × V)} {x : K}, lkp l x = none ↔ x ∉ l.map (·.1)
  | [], x => by simp [lkp]
  | (y, u) :: l, x => by
    by_cases h : y = x
    · subst h; simp [lkp]
    · have := lkp_none (l := l) (x := x)
      simp only [lkp, h, if_false, this, List.map_cons, List.mem_cons, not_or]
      exact ⟨fun h1 => ⟨fun e => h e.symm, h1⟩, fun h1 => h1.2⟩
theorem lkp_mem : ∀ {l : List (K × V)} {x : K} {v : V}, lkp l x = some v → (x, v) ∈ l
  | [], x, v, h => by simp [lkp] at h
  | (y, u) :: l, x, v, h => by
    by_cases hy : y = x
    · subst hy; simp [lkp] at h; subst h; exact List.mem_cons_self ..
    · simp only [lkp, hy, if_false] at h
      exact List.mem_cons_of_mem _ (lkp_mem h)
theorem lkp_of_mem : ∀ {l : List (K × V)}, (l.map (·.1)).Nodup → ∀ {x : K} {v : V}, (x, v) ∈ l → lkp l x = some v
  | [], _, x, v, h => by simp at h
  | (y, u) :: l, hn, x, v, h => by
    simp only [List.map_cons, List.nodup_cons] at hn
    rcases List.mem_cons.1 h with h | h
    · cases h; simp [lkp]
    · have hne : y ≠ x := fun e => hn.1 (e ▸ List.mem_map.2 ⟨_, h, rfl⟩)
      simp only [lkp, hne, if_false]
      exact lkp_of_mem hn.2 h
theorem lkp_ups : ∀ (l : List (K × V)) (x : K) (v : V) (y : K), lkp (ups l x v) y = if x = y then some v else lkp l y
  | [], x, v, y => by simp [ups, lkp]
  | (z, u) :: l, x, v, y => by
    by_cases h : z = x
    · subst h
      simp only [ups, if_true, lkp]
      split <;> rfl
    · simp only [ups, h, if_false, lkp, lkp_ups l x v y]
      by_cases hz : z = y
      · have : ¬ x = y := fun e => h (hz.trans e.symm)
        simp [hz, this]
      · simp [hz]
theorem ups_keys : ∀ (l : List (K × V)) (x : K) (v : V), (ups l x v).map (·.1) = if x ∈ l.map (·.1) then l.map (·.1) else l.map (·.1) ++ [x]
  | [], x, v => by simp [ups]
  | (z, u) :: l, x, v => by
    by_cases h : z = x
    · subst h; simp [ups]
    · have h' : ¬ x = z := fun e => h e.symm
      simp only [ups, h, if_false, List.map_cons, ups_keys l x v, List.mem_cons, h', false_or]
      split <;> rfl
theorem ups_nodup {l : List (K × V)} (hn : (l.map (·.1)).Nodup) (x : K) (v : V) : ((ups l x v).map (·.1)).Nodup := by
  rw [ups_keys]
  split
  · exact hn
  · rename_i h
    refine List.nodup_append.2 ⟨hn, by simp, fun a ha b hb e => ?_⟩
    simp only [List.mem_singleton] at hb
    subst e hb
    exact h ha
theorem ups_length (l : List (K × V)) (x : K) (v : V) : (ups l x v).length = if (lkp l x).isSome then l.length else l.length + 1 := by
  have h : ((ups l x v).map (·.1)).length = (ups l x v).length := List.length_map ..
  rw [← h, ups_keys]
  cases hq : lkp l x with
  | none => simp [lkp_none.1 hq]
  | some u =>
    have : x ∈ l.map (·.1) := List.mem_map.2 ⟨_, lkp_mem hq, rfl⟩
    simp [this]
theorem ups_set : ∀ {l : List (K × V)}, (l.map (·.1)).Nodup → ∀ {i : Nat} {x : K}, (l.map (·.1))[i]? = some x → ∀ v, ups l x v = l.set i (x, v)
  | [], _, i, x, h, v => by simp at h
  | (z, u) :: l, hn, 0, x, h, v => by simp at h; subst h; simp [ups]
  | (z, u) :: l, hn, i + 1, x, h, v => by
    simp only [List.map_cons, List.nodup_cons, List.getElem?_cons_succ] at hn h
    have hne : z ≠ x := fun e => hn.1 (e ▸ List.mem_of_getElem? h)
    simp only [ups, hne, if_false, List.set_cons_succ, ups_set hn.2 h v]
theorem ups_new : ∀ {l : List (K × V)} {x : K}, x ∉ l.map (·.1) → ∀ v, ups l x v = l ++ [(x, v)]
  | [], x, _, v => rfl
  | (z, u) :: l, x, h, v => by
    simp only [List.map_cons, List.mem_cons, not_or] at h
    simp only [ups, fun e => h.1 (Eq.symm e), if_false, ups_new h.2 v, List.cons_append]
    rw [if_neg fun e => h.1 e.symm]
theorem lkp_idx : ∀ {l : List (K × V)}, (l.map (·.1)).Nodup → ∀ {i : Nat} {p : K × V}, l[i]? = some p → lkp l p.1 = some p.2
  | l, hn, i, (x, v), h => lkp_of_mem hn (List.mem_of_getElem? h)
theorem del_idx : ∀ {l : List (K × V)}, (l.map (·.1)).Nodup → ∀ {i : Nat} {x : K}, (l.map (·.1))[i]? = some x → del l x = l.eraseIdx i
  | [], _, i, x, h => by simp at h
  | (z, u) :: l, hn, 0, x, h => by simp at h; subst h; simp [del]
  | (z, u) :: l, hn, i + 1, x, h => by
    simp only [List.map_cons, List.nodup_cons, List.getElem?_cons_succ] at hn h
    have hne : z ≠ x := fun e => hn.1 (e ▸ List.mem_of_getElem? h)
    simp only [del, hne, if_false, List.eraseIdx_cons_succ, del_idx hn.2 h]
theorem del_none : ∀ {l : List (K × V)} {x : K}, x ∉ l.map (·.1) → del l x = l
  | [], x, _ => rfl
  | (z, u) :: l, x, h => by
    simp only [List.map_cons, List.mem_cons, not_or] at h
    unfold del
    rw [if_neg fun e => h.1 e.symm, del_none h.2]
theorem del_sub : ∀ (l : List (K × V)) (x : K), (del l x).Sublist l
  | [], _ => List.Sublist.refl _
  | (z, u) :: l, x => by
    unfold del
    split
    · exact List.sublist_cons_self ..
    · exact (del_sub l x).cons_cons _
theorem del_nodup {l : List (K × V)} (hn : (l.map (·.1)).Nodup) (x : K) : ((del l x).map (·.1)).Nodup := hn.sublist ((del_sub l x).map _)
theorem lkp_del : ∀ {l : List (K × V)}, (l.map (·.1)).Nodup → ∀ (x y : K), lkp (del l x) y = if x = y then none else lkp l y
  | [], _, x, y => by simp [del, lkp]
  | (z, u) :: l, hn, x, y => by
    simp only [List.map_cons, List.nodup_cons] at hn
    by_cases h : z = x
    · subst h
      simp only [del, if_true, lkp]
      by_cases hz : z = y
      · subst hz; simp [lkp_none.2 hn.1]
      · simp [hz]
    · simp only [del, h, if_false, lkp, lkp_del hn.2 x y]
      by_cases hz : z = y
      · have : ¬ x = y := fun e => h (hz.trans e.symm)
        simp [hz, this]
      · simp [hz]
theorem del_length : ∀ (l : List (K × V)) (x : K), (del l x).length = if (lkp l x).isSome then l.length - 1 else l.length
  | [], x => by simp [del, lkp]
  | (z, u) :: l, x => by
    by_cases h : z = x
    · subst h; simp [del, lkp]
    · simp only [del, h, if_false, lkp, List.length_cons, del_length l x]
      cases hq : lkp l x with
      | none => simp
      | some v =>
        have : 0 < l.length := List.length_pos_of_mem (lkp_mem hq)
        simp; omega
end
theorem set_same {α : Type} : ∀ {l : List α} {i : Nat} {x : α}, l[i]? = some x → l.set i x = l
  | [], i, x, h => by simp at h
  | y :: l, 0, x, h => by simp at h; subst h; rfl
  | y :: l, i + 1, x, h => by simp only [List.getElem?_cons_succ] at h; simp only [List.set_cons_succ, set_same h]
theorem map_erase {α β : Type} (f : α → β) : ∀ (l : List α) (j : Nat), (l.eraseIdx j).map f = (l.map f).eraseIdx j
  | [], _ => by simp
  | _ :: _, 0 => by simp
  | a :: r, j + 1 => by simp [map_erase f r j]
/-- a map's entries read as a list -/
structure MpR {K V : Type} (f : K → Value) (g : V → Value) (es : Array MapEntry) (c : Nat) (l : List (K × V)) : Prop where
  map : es.toList.map (fun e => (e.key, e.val)) = l.map (fun p => (f p.1, g p.2))
  born : ∀ x ∈ es.toList, x.born < c
  nodup : (es.toList.map (·.born)).Nodup
  keys : (l.map (·.1)).Nodup
section
variable {K V : Type} {f : K → Value} {g : V → Value} {es : Array MapEntry} {c : Nat} {l : List (K × V)}
theorem MpR.nil (f : K → Value) (g : V → Value) (c : Nat) : MpR f g #[] c [] := ⟨rfl, by simp, by simp, by simp⟩
theorem MpR.len (h : MpR f g es c l) : es.size = l.length := by
  have := congrArg List.length h.map
  simpa using this
theorem MpR.ks (h : MpR f g es c l) : es.toList.map (·.key) = (l.map (·.1)).map f := by
  have := congrArg (List.map Prod.fst) h.map
  simpa [List.map_map, Function.comp_def] using this
theorem MpR.at (h : MpR f g es c l) {i : Nat} {e : MapEntry} (he : es.toList[i]? = some e) : ∃ p, l[i]? = some p ∧ e.key = f p.1 ∧ e.val = g p.2 := by
  have h1 : (es.toList.map (fun e => (e.key, e.val)))[i]? = some (e.key, e.val) := by rw [List.getElem?_map, he]; rfl
  rw [h.map, List.getElem?_map] at h1
  cases hq : l[i]? with
  | none => rw [hq] at h1; cases h1
  | some p =>
    rw [hq] at h1
    simp only [Option.map_some, Option.some.injEq, Prod.mk.injEq] at h1
    exact ⟨p, rfl, h1.1.symm, h1.2.symm⟩
theorem MpR.push (h : MpR f g es c l) {x : K} (hx : x ∉ l.map (·.1)) (v : V) : MpR f g (es.push { key := f x, val := g v, born := c }) (c + 1) (l ++ [(x, v)]) := by
  refine ⟨by simp [h.map], fun y hy => ?_, ?_, ?_⟩
  · simp only [Array.toList_push, List.mem_append, List.mem_singleton] at hy
    rcases hy with hy | rfl
    · exact Nat.lt_succ_of_lt (h.born y hy)
    · exact Nat.lt_succ_self _
  · simp only [Array.toList_push, List.map_append, List.map_cons, List.map_nil]
    refine List.nodup_append.2 ⟨h.nodup, by simp, fun a ha b hb => ?_⟩
    simp only [List.mem_singleton] at hb
    subst hb
    obtain ⟨y, hy, rfl⟩ := List.mem_map.1 ha
    exact Nat.ne_of_lt (h.born y hy)
  · rw [List.map_append]
    refine List.nodup_append.2 ⟨h.keys, by simp, fun a ha b hb e => ?_⟩
    simp only [List.map_cons, List.map_nil, List.mem_singleton] at hb
    subst e hb
    exact hx ha
theorem MpR.mod (h : MpR f g es c l) {i : Nat} {x : K} (hi : (l.map (·.1))[i]? = some x) (v : V) : MpR f g (es.modify i fun e => { e with key := f x, val := g v }) c (l.set i (x, v)) := by
  have hlen := h.len
  have hil : i < l.length := by have := (List.getElem?_eq_some_iff.1 hi).1; simpa using this
  have hset : (es.modify i fun e => { e with key := f x, val := g v }).toList.map (·.born) = es.toList.map (·.born) := by
    refine List.ext_getElem? fun j => ?_
    simp only [List.getElem?_map, Array.getElem?_toList, Array.getElem?_modify]
    by_cases hij : i = j
    · subst hij; cases es[i]? <;> simp
    · simp [hij]
  refine ⟨?_, fun y hy => ?_, by rw [hset]; exact h.nodup, ?_⟩
  · refine List.ext_getElem? fun j => ?_
    have hj : (es.toList.map (fun e => (e.key, e.val)))[j]? = (l.map (fun p => (f p.1, g p.2)))[j]? := by rw [h.map]
    simp only [List.getElem?_map, Array.getElem?_toList, Array.getElem?_modify, List.getElem?_set] at hj ⊢
    by_cases hij : i = j
    · subst hij
      have h1 : i < es.size := by omega
      simp [h1, hil]
    · simp only [hij, if_false]
      exact hj
  · have h1 : y.born ∈ (es.modify i fun e => { e with key := f x, val := g v }).toList.map (·.born) := List.mem_map.2 ⟨y, hy, rfl⟩
    rw [hset] at h1
    obtain ⟨z, hz, e⟩ := List.mem_map.1 h1
    rw [← e]
    exact h.born z hz
  · have : (l.set i (x, v)).map (·.1) = l.map (·.1) := by
      rw [List.map_set]
      exact set_same hi
    rw [this]
    exact h.keys
theorem MpR.era (h : MpR f g es c l) {i : Nat} (hi : i < l.length) : MpR f g (es.eraseIdxIfInBounds i) c (l.eraseIdx i) := by
  have hlen := h.len
  have he : (es.eraseIdxIfInBounds i).toList = es.toList.eraseIdx i := by
    unfold Array.eraseIdxIfInBounds
    rw [dif_pos (by omega)]
    simp
  have hs := List.eraseIdx_sublist es.toList i
  refine ⟨?_, fun x hx => ?_, ?_, ?_⟩
  · rw [he, map_erase, h.map, map_erase]
  · rw [he] at hx; exact h.born x (hs.subset hx)
  · rw [he]; exact h.nodup.sublist (hs.map _)
  · rw [map_erase]; exact h.keys.sublist (List.eraseIdx_sublist ..)
end
/-- a map's block by its contents -/
def dpMp {K V : Type} (f : K → Value) (g : V → Value) (b : Nat) (l : List (K × V)) : DP := ⟨fun H => ∃ es c, H[b]? = some (.map es c) ∧ MpR f g es c l, fun k => k = b,
  fun H k h e => by subst e; obtain ⟨es, c, h, _⟩ := h; exact (Array.getElem?_eq_some_iff.1 h).1, fun H H' hd h => by obtain ⟨es, c, h, hr⟩ := h; exact ⟨es, c, (hd.maps b _ h rfl rfl).trans h, hr⟩⟩
section
variable {P : Program} {N : Fm} {ops : Array Oper} {Q : Exit → Act → World → Prop} {rest : List Oper} {σ : Store} {d : Tmp} {t : TypeId} {pos : String} {af : Array Edge} {S : Nat → Prop} {w0 w w' : World} {L : List VB} {D : List DP} {gd : Option (Nat × Bool)} {do_ : Option Tmp}
variable {K V : Type} [DecidableEq K] {f : K → Value} {g : V → Value} {b : Nat} {l : List (K × V)}
theorem Fr.mp (h : Fr w0 w L D S) (hm : dpMp f g b l ∈ D) : ∃ es c, w.heap[b]? = some (.map es c) ∧ MpR f g es c l := h.data _ hm
theorem TL.makeMpFr (f : K → Value) (g : V → Value) (hF : Fr w0 w L D S) {ty : TypeId} (hd : Nat.blt d N.n = true)
    (K' : ∀ w' b, b = w.heap.size → Fr w0 w' L (dpMp f g b [] :: D) S → TL P N .seq ops Q rest ((d, .map (some b)) :: σ) w') :
    TL P N .seq ops Q (⟨some d, .makeMap ty none, t, pos, af, none⟩ :: rest) σ w := by
  refine TL.op (w' := w.alloc (.map #[] 0)) (fun ρ hρ => ?_) hd (K' _ _ rfl (hF.addNew (ext_alloc _ _) _ (by unfold dpMp; exact ⟨_, _, heap_alloc .., MpR.nil ..⟩) fun k hk => (by unfold dpMp at hk; exact Nat.le_of_eq hk.symm)))
  simp [execOp, Instr.makeMap]
theorem Fr.mpUpd {l' : List (K × V)} {es es' : Array MapEntry} {c c' : Nat} (hF : Fr w0 w L (dpMp f g b l :: D) S) (hb : w0.heap.size ≤ b ∨ S b) (hfree : ∀ x ∈ D, ¬ x.fp b) (hm : w.heap[b]? = some (.map es c)) (hr : MpR f g es' c' l') :
    Fr w0 (w.putObj b (.map es' c')) L (dpMp f g b l' :: D) S := by
  have h0 : Fr w0 w L (dpMap b es c :: D) S := by
    refine Fr.add (hF.weak (List.Sublist.refl _) fun d hd => List.mem_cons_of_mem _ hd) _ (by unfold dpMap; exact hm) fun v hv hk => ?_
    unfold dpMap at hk
    exact hF.apart v hv _ (List.mem_cons_self ..) (by unfold dpMp; exact hk)
  have h1 := h0.mapUpd (c' := c') (es' := es') hb hfree
  refine Fr.add (h1.weak (List.Sublist.refl _) fun d hd => List.mem_cons_of_mem _ hd) _ (by unfold dpMp; exact ⟨_, _, (by have := h1.map (List.mem_cons_self ..); exact this), hr⟩) fun v hv hk => ?_
  exact hF.apart v hv _ (List.mem_cons_self ..) (by unfold dpMp at hk ⊢; exact hk)
/-- where a key is found -/
theorem run_find {k : TypeId} [hK : UKey P k K f] {es : Array MapEntry} {c : Nat} (h : MpR f g es c l) (x : K) (w : World) :
    ((Instr.findKey k (f x) es.toList).run P w = .ok none w ∧ x ∉ l.map (·.1)) ∨ ∃ i v, (Instr.findKey k (f x) es.toList).run P w = .ok (some (i, g v)) w ∧ l[i]? = some (x, v) ∧ ∃ e, es[i]? = some e ∧ e.key = f x := by
  rcases hK.find x es.toList _ w h.ks with h1 | ⟨i, e, h1, h2, h3⟩
  · exact .inl h1
  · obtain ⟨p, hp, hk, hv⟩ := h.at h2
    rw [List.getElem?_map, hp] at h3
    simp only [Option.map_some, Option.some.injEq] at h3
    obtain ⟨a, v⟩ := p
    simp only at h3 hk hv
    subst h3
    exact .inr ⟨i, v, by rw [h1, hv], hp, e, by simpa using h2, hk⟩
theorem ev_mlook (hF : Fr w0 w L D S) {x i : Operand} {ty k e : TypeId} [hT : UMap P ty k e] [hK : UKey P k K f] {z : Value} {sz b1 : Nat} [hS : USize P e z sz b1] {y : K} (hx : look σ x = some (.map (some b))) (hi : look σ i = some (f y)) (hm : dpMp f g b l ∈ D) :
    Ev P σ w.heap ⟨do_, .lookup ty x i false, t, pos, af, gd⟩ ((lkp l y).elim z g) := by
  unfold Ev
  intro ρ w1 hρ hw
  obtain ⟨es, c, hb, hr⟩ := hF.mp hm
  rw [← hw] at hb
  obtain ⟨ii, hii, hz, _⟩ := hS.info
  rcases run_find (P := P) (k := k) hr y w1 with ⟨h1, h2⟩ | ⟨i', v, h1, h2, _⟩
  · rw [lkp_none.2 h2]
    simp [execOp, hρ x _ hx, hρ i _ hi, Instr.lookup, run_underlying hT.out, MapKept.run_getObj_map hb, hK.chk, h1, Result.andThen, zeroValue, typeInfo, hii, hz]
  · rw [lkp_idx hr.keys h2]
    simp [execOp, hρ x _ hx, hρ i _ hi, Instr.lookup, run_underlying hT.out, MapKept.run_getObj_map hb, hK.chk, h1, Result.andThen]
theorem ev_mlookOk (hF : Fr w0 w L D S) {x i : Operand} {ty k e : TypeId} [hT : UMap P ty k e] [hK : UKey P k K f] {z : Value} {sz b1 : Nat} [hS : USize P e z sz b1] {y : K} (hx : look σ x = some (.map (some b))) (hi : look σ i = some (f y)) (hm : dpMp f g b l ∈ D) :
    Ev P σ w.heap ⟨do_, .lookup ty x i true, t, pos, af, gd⟩ (.tuple #[(lkp l y).elim z g, .bool (lkp l y).isSome]) := by
  unfold Ev
  intro ρ w1 hρ hw
  obtain ⟨es, c, hb, hr⟩ := hF.mp hm
  rw [← hw] at hb
  obtain ⟨ii, hii, hz, _⟩ := hS.info
  rcases run_find (P := P) (k := k) hr y w1 with ⟨h1, h2⟩ | ⟨i', v, h1, h2, _⟩
  · rw [lkp_none.2 h2]
    simp [execOp, hρ x _ hx, hρ i _ hi, Instr.lookup, run_underlying hT.out, MapKept.run_getObj_map hb, hK.chk, h1, Result.andThen, zeroValue, typeInfo, hii, hz]
  · rw [lkp_idx hr.keys h2]
    simp [execOp, hρ x _ hx, hρ i _ hi, Instr.lookup, run_underlying hT.out, MapKept.run_getObj_map hb, hK.chk, h1, Result.andThen]
theorem ev_mlen (hF : Fr w0 w L D S) {x : Operand} {ty k e : TypeId} [hT : UMap P ty k e] (hx : look σ x = some (.map (some b))) (hm : dpMp f g b l ∈ D) :
    Ev P σ w.heap ⟨do_, .call { callee := .builtin .len, args := #[x], argTypes := #[ty] }, t, pos, af, gd⟩ (.int .i64 (l.length : Int)) := by
  unfold Ev
  intro ρ w1 hρ hw
  obtain ⟨es, c, hb, hr⟩ := hF.mp hm
  rw [← hw] at hb
  simp [execOp, hρ x _ hx, resolve, invoke, builtin, Builtin.len_, run_underlying hT.out, goInt, MapKept.run_getObj_map hb, Result.andThen, hr.len]
theorem TL.op0v {op : Op} {v : Value} {w' : World} (h : ∀ ρ, Agree σ ρ → (execOp ρ ⟨none, op, t, pos, af, none⟩).run P w = .ok (.value v) w') (k : TL P N .seq ops Q rest σ w') :
    TL P N .seq ops Q (⟨none, op, t, pos, af, none⟩ :: rest) σ w := by
  unfold TL at k ⊢
  intro a ha
  refine wpList_plain rfl fun K hK => ?_
  unfold Oper.wp
  rw [h _ ha.agree]
  exact hK _ _ (k _ (ha.putNone _))
theorem putObj_eq {w : World} {b : Nat} {o : Obj} : w.putObj b o = { w with heap := w.heap.setIfInBounds b o } := rfl
theorem TL.mupd (hF : Fr w0 w L (dpMp f g b l :: D) S) (hb : w0.heap.size ≤ b ∨ S b) (hfree : ∀ x ∈ D, ¬ x.fp b) {x i y : Operand} {ty k e : TypeId} [hT : UMap P ty k e] [hK : UKey P k K f] {q : K} {v : V}
    (hx : look σ x = some (.map (some b))) (hi : look σ i = some (f q)) (hy : look σ y = some (g v)) (K' : ∀ w', Fr w0 w' L (dpMp f g b (ups l q v) :: D) S → TL P N .seq ops Q rest σ w') :
    TL P N .seq ops Q (⟨none, .mapUpdate ty x i y, t, pos, af, none⟩ :: rest) σ w := by
  obtain ⟨es, c, hm, hr⟩ := hF.mp (List.mem_cons_self ..)
  rcases run_find (P := P) (k := k) hr q w with ⟨h1, h2⟩ | ⟨j, u, h1, h2, en, h3, h4⟩
  · refine TL.op0 (fun ρ hρ => ?_) (K' _ (hF.mpUpd hb hfree hm (by rw [ups_new h2]; exact hr.push h2 v)))
    simp [execOp, hρ x _ hx, hρ i _ hi, hρ y _ hy, Instr.mapUpdate, run_underlying hT.out, MapKept.run_getObj_map hm, hK.chk, h1, Result.andThen, MapKept.run_setObj_map _ hm, putObj_eq]
  · have hj : (l.map (·.1))[j]? = some q := by rw [List.getElem?_map, h2]; rfl
    refine TL.op0 (fun ρ hρ => ?_) (K' _ (hF.mpUpd hb hfree hm (by rw [ups_set hr.keys hj]; exact hr.mod hj v)))
    simp [execOp, hρ x _ hx, hρ i _ hi, hρ y _ hy, Instr.mapUpdate, run_underlying hT.out, MapKept.run_getObj_map hm, hK.chk, h1, h3, h4, Instr.keyThatStays, hK.same, Result.andThen, MapKept.run_setObj_map _ hm, putObj_eq]
theorem TL.mdel (hF : Fr w0 w L (dpMp f g b l :: D) S) (hb : w0.heap.size ≤ b ∨ S b) (hfree : ∀ x ∈ D, ¬ x.fp b) {x i : Operand} {ty k e : TypeId} [hT : UMap P ty k e] [hK : UKey P k K f] {q : K}
    (hx : look σ x = some (.map (some b))) (hi : look σ i = some (f q)) (K' : ∀ w', Fr w0 w' L (dpMp f g b (del l q) :: D) S → TL P N .seq ops Q rest σ w') :
    TL P N .seq ops Q (⟨none, .call { callee := .builtin .delete, args := #[x, i], argTypes := #[ty, k] }, t, pos, af, none⟩ :: rest) σ w := by
  obtain ⟨es, c, hm, hr⟩ := hF.mp (List.mem_cons_self ..)
  rcases run_find (P := P) (k := k) hr q w with ⟨h1, h2⟩ | ⟨j, u, h1, h2, en, h3, h4⟩
  · refine TL.op0v (v := .tuple #[]) (fun ρ hρ => ?_) (K' _ (hF.mpUpd hb hfree hm (by rw [del_none h2]; exact hr)))
    simp [execOp, hρ x _ hx, hρ i _ hi, resolve, invoke, builtin, Builtin.delete_, run_underlying hT.out, MapKept.run_getObj_map hm, hK.chk, h1, Result.andThen, MapKept.run_setObj_map _ hm, putObj_eq]
  · have hj : (l.map (·.1))[j]? = some q := by rw [List.getElem?_map, h2]; rfl
    refine TL.op0v (v := .tuple #[]) (fun ρ hρ => ?_) (K' _ (hF.mpUpd hb hfree hm (by rw [del_idx hr.keys hj]; exact hr.era (List.getElem?_eq_some_iff.1 h2).1)))
    simp [execOp, hρ x _ hx, hρ i _ hi, resolve, invoke, builtin, Builtin.delete_, run_underlying hT.out, MapKept.run_getObj_map hm, hK.chk, h1, Result.andThen, MapKept.run_setObj_map _ hm, putObj_eq]
end
attribute [irreducible] dpMp

end Go.Eng

set_option linter.unusedSectionVars false
namespace Go.Eng
open Go Go.RowKit

theorem run_getObj_o {P : Program} {w : World} {r : Nat} {o : Obj} (h : w.heap[r]? = some o) (hc : mapO o = true) : (getObj r).run P w = .ok o w := by
  cases o <;> first | cases hc; done | simp [getObj, Sem.run, h]
theorem run_setObj_o {P : Program} {w : World} {r : Nat} {o : Obj} (o' : Obj) (h : w.heap[r]? = some o) (hc : mapO o = true) : (setObj r o').run P w = .ok () (w.putObj r o') := by
  cases o <;> first | cases hc; done | simp [setObj, Sem.run, h, putObj_eq]
/-- a walk over a map: what it has handed out, in order, and what is left -/
def dpIt {K V : Type} (f : K → Value) (g : V → Value) (r b : Nat) (l done todo : List (K × V)) : DP := ⟨fun H => ∃ (es : Array MapEntry) (c : Nat) (E T : List MapEntry), H[b]? = some (.map es c) ∧ MpR f g es c l ∧ H[r]? = some (.mapIter (some b) c (E.map (·.born)).toArray c) ∧ (E ++ T).Perm es.toList ∧
    E.map (fun e => (e.key, e.val)) = done.map (fun p => (f p.1, g p.2)) ∧ T.map (fun e => (e.key, e.val)) = todo.map (fun p => (f p.1, g p.2)), fun k => k = r ∨ k = b,
  fun H k h e => by
    obtain ⟨es, c, E, T, h1, _, h2, _⟩ := h
    rcases e with rfl | rfl
    · exact (Array.getElem?_eq_some_iff.1 h2).1
    · exact (Array.getElem?_eq_some_iff.1 h1).1,
  fun H H' hd h => by
    obtain ⟨es, c, E, T, h1, h2, h3, h4⟩ := h
    exact ⟨es, c, E, T, (hd.maps b _ h1 rfl (.inr rfl)).trans h1, h2, (hd.maps r _ h3 rfl (.inl rfl)).trans h3, h4⟩⟩
section
variable {P : Program} {N : Fm} {ops : Array Oper} {Q : Exit → Act → World → Prop} {rest : List Oper} {σ : Store} {d : Tmp} {t : TypeId} {pos : String} {af : Array Edge} {S : Nat → Prop} {w0 w w' : World} {L : List VB} {D : List DP} {gd : Option (Nat × Bool)} {do_ : Option Tmp}
variable {K V : Type} [DecidableEq K] {f : K → Value} {g : V → Value} {r b : Nat} {l done todo : List (K × V)}
/-- a block that is none of cells written anew -/
theorem Fr.putO {x y : DP} {o o' : Obj} (hF : Fr w0 w L (x :: D) S) (ho : w.heap[r]? = some o) (hc : o.isCells = false) (hb : w0.heap.size ≤ r ∨ S r) (hfree : ∀ x ∈ D, ¬ x.fp r) (hy : y.p (w.putObj r o').heap) (hyL : ∀ v ∈ L, ¬ y.fp v.b) :
    Fr w0 (w.putObj r o') L (y :: D) S := by
  have hne : ∀ v ∈ L, v.b ≠ r := fun v hv e => by
    have h1 := (hF.vars v hv).2
    unfold Vr at h1
    rw [e, ho] at h1
    cases h1
    cases hc
  have hother : ∀ k, k ≠ r → (w.putObj r o').heap[k]? = w.heap[k]? := fun k hk => World.putObj_heap_other hk
  have hsize : (w.putObj r o').heap.size = w.heap.size := World.putObj_size
  refine ⟨⟨hF.exs.os, hF.exs.tape, hF.exs.output, by rw [hsize]; exact hF.exs.size, fun k hk hs => ?_⟩, fun v hv => ⟨(hF.vars v hv).1, ?_⟩, hF.dist, fun x hx => ?_, fun v hv x hx => ?_⟩
  · rw [hother k (fun e => by subst e; exact hb.elim (fun h => absurd h (Nat.not_le_of_gt hk)) hs)]
    exact hF.exs.block k hk hs
  · have h1 := (hF.vars v hv).2
    unfold Vr at h1 ⊢
    rw [hother _ (hne v hv)]; exact h1
  · rcases List.mem_cons.1 hx with rfl | hx
    · exact hy
    · refine x.st _ _ ⟨Nat.le_of_eq hsize.symm, fun k cs t y hk _ => hother k fun e => ?_, fun k o hk _ hf => hother k fun e => hfree x hx (e ▸ hf)⟩ (hF.data x (List.mem_cons_of_mem _ hx))
      rw [e, ho] at hk
      cases hk
      cases hc
  · rcases List.mem_cons.1 hx with rfl | hx
    · exact hyL v hv
    · exact hF.apart v hv x (List.mem_cons_of_mem _ hx)
theorem TL.rangeFr (hF : Fr w0 w L D S) {x : Operand} {ty k e : TypeId} [hT : UMap P ty k e] (hx : look σ x = some (.map (some b))) (hm : dpMp f g b l ∈ D) (hd : Nat.blt d N.n = true)
    (K' : ∀ w' r, r = w.heap.size → Fr w0 w' L (dpIt f g r b l [] l :: D) S → TL P N .seq ops Q rest ((d, .pointer (some ⟨r, 0, none⟩)) :: σ) w') :
    TL P N .seq ops Q (⟨some d, .range ty x, t, pos, af, none⟩ :: rest) σ w := by
  obtain ⟨es, c, hb, hr⟩ := hF.mp hm
  have hlt := (Array.getElem?_eq_some_iff.1 hb).1
  refine TL.op (w' := w.alloc (.mapIter (some b) c #[] c)) (fun ρ hρ => ?_) hd (K' _ _ rfl ?_)
  · simp [execOp, hρ x _ hx, run_range_map w ty k e b es c hT.out hb]
  · refine (hF.exts (ext_alloc _ _)).add _ ?_ ?_
    · unfold dpIt
      exact ⟨es, c, [], es.toList, ((ext_alloc w _).block b hlt).trans hb, hr, heap_alloc .., List.Perm.refl _, rfl, hr.map⟩
    · intro v hv hk
      unfold dpIt at hk
      rcases hk with hk | hk
      · have h1 := (hF.vars v hv).2.lt
        omega
      · exact hF.apart v hv _ hm (by unfold dpMp; exact hk)
theorem perm_split {α β : Type} {F : α → β} {e : α} {T : List α} (he : e ∈ T) {γ : Type} {G : γ → β} {todo : List γ} (h : T.map F = todo.map G) :
    ∃ T1 T2 t1 p t2, T = T1 ++ e :: T2 ∧ todo = t1 ++ p :: t2 ∧ F e = G p ∧ (T1 ++ T2).map F = (t1 ++ t2).map G := by
  obtain ⟨T1, T2, rfl⟩ := List.append_of_mem he
  rw [List.map_append, List.map_cons] at h
  obtain ⟨t1, t2', rfl, h1, h2⟩ := List.map_eq_append_iff.1 h.symm
  obtain ⟨p, t2, rfl, h3, h4⟩ := List.map_eq_cons_iff.1 h2
  exact ⟨T1, T2, t1, p, t2, rfl, rfl, h3.symm, by rw [List.map_append, List.map_append, h1, h4]⟩
theorem run_choose (n : Nat) (hn : 0 < n) (w : World) : ∃ (j : Nat) (k : Nat), j < n ∧ (choose (.mapNext n)).run P w = .ok j (w.drewN k) := by
  by_cases hf : n ≤ 1
  · exact ⟨0, 0, hn, by simp [choose, Sem.run, Question.forced, hf]; rfl⟩
  · have h : ∃ j, j < n ∧ (choose (.mapNext n)).run P w = .ok j w.drew := ⟨_, Nat.mod_lt _ hn, by
      simp only [choose, Sem.run, Question.forced, decide_eq_true_eq, hf, if_false, Question.cut]
      rfl⟩
    obtain ⟨j, h1, h2⟩ := h
    exact ⟨j, 1, h1, h2⟩
theorem TL.nextFr (hF : Fr w0 w L (dpIt f g r b l done todo :: D) S) (hr : w0.heap.size ≤ r ∨ S r) (hfree : ∀ x ∈ D, ¬ x.fp r) {x : Operand} (hx : look σ x = some (.pointer (some ⟨r, 0, none⟩))) (hd : Nat.blt d N.n = true)
    (h0 : todo = [] → ∀ w', Fr w0 w' L (dpIt f g r b l done [] :: D) S → TL P N .seq ops Q rest ((d, .tuple #[.bool false]) :: σ) w')
    (h1 : ∀ p todo' w', todo.Perm (p :: todo') → Fr w0 w' L (dpIt f g r b l (done ++ [p]) todo' :: D) S → TL P N .seq ops Q rest ((d, .tuple #[.bool true, f p.1, g p.2]) :: σ) w') :
    TL P N .seq ops Q (⟨some d, .next x false, t, pos, af, none⟩ :: rest) σ w := by
  have hI := hF.data _ (List.mem_cons_self ..)
  unfold dpIt at hI
  obtain ⟨es, c, E, T, hb, hR, hr0, hp, hE, hT⟩ := hI
  have hnd : ((E ++ T).map (·.born)).Nodup := (hp.map (·.born)).nodup_iff.2 hR.nodup
  rw [List.map_append] at hnd
  have hdis := (List.nodup_append.1 hnd).2.2
  have hl : (es.filter fun e => !(E.map (·.born)).toArray.contains e.born).toList.Perm T := by
    rw [Array.toList_filter]
    refine (hp.symm.filter _).trans ?_
    rw [List.filter_append]
    have e1 : E.filter (fun e => !(E.map (·.born)).toArray.contains e.born) = [] := by
      rw [List.filter_eq_nil_iff]
      intro y hy
      simp only [Bool.not_eq_true', Bool.not_eq_false, List.contains_toArray, List.contains_iff_mem]
      exact List.mem_map.2 ⟨y, hy, rfl⟩
    have e2 : T.filter (fun e => !(E.map (·.born)).toArray.contains e.born) = T := by
      rw [List.filter_eq_self]
      intro y hy
      cases hc : (E.map (·.born)).toArray.contains y.born with
      | false => rfl
      | true =>
        exfalso
        simp only [List.contains_toArray, List.contains_iff_mem] at hc
        exact hdis _ hc _ (List.mem_map.2 ⟨y, hy, rfl⟩) rfl
    rw [e1, e2]
    exact List.Perm.refl _
  generalize hLd : (es.filter fun e => !(E.map (·.born)).toArray.contains e.born) = Lf at hl
  have htest : (!(E.map (·.born)).toArray.isEmpty && !es.isEmpty && es.all (fun x => decide (x.born ≥ c))) = false := next_test_false _ es c c hR.born (Nat.le_refl _)
  have hmem : ∀ y ∈ Lf, y.born < c := fun y hy => by
    have : y ∈ T := hl.mem_iff.1 (Array.mem_toList_iff.2 hy)
    exact hR.born y (hp.mem_iff.1 (List.mem_append_right _ this))
  have e1 : Lf.filter (fun y => decide (y.born < c)) = Lf := Array.filter_eq_self.2 (fun y hy => by simpa using hmem y hy)
  have e2 : Lf.filter (fun y => decide (y.born ≥ c)) = #[] := by
    rw [Array.filter_eq_empty_iff]
    intro y hy
    have := hmem y hy
    simp
    omega
  rcases Nat.eq_zero_or_pos Lf.size with h2 | h2
  · have hLe : Lf = #[] := Array.eq_empty_of_size_eq_zero h2
    have hT0 : T = [] := by
      have h3 := hl.length_eq
      rw [hLe] at h3
      exact List.length_eq_zero_iff.1 h3.symm
    have ht0 : todo = [] := by
      rw [hT0] at hT
      exact List.map_eq_nil_iff.1 hT.symm
    subst ht0
    refine TL.op (w' := w) (fun ρ hρ => ?_) hd (h0 rfl w hF)
    simp only [execOp, hρ x _ hx, Instr.next, Sem.run_bind, run_getObj_o hr0 rfl, run_getObj_o hb rfl, Result.andThen_ok, htest, Bool.false_eq_true, if_false, hLd, e1, e2, hLe]
    simp [choose, Sem.run, Question.forced, Result.andThen]
  · have hne : Lf.isEmpty = false := by simp [Array.isEmpty]; intro h; rw [h] at h2; simp at h2
    obtain ⟨j, k, hj, hrun⟩ := run_choose (P := P) Lf.size h2 w
    have hmT : Lf[j] ∈ T := hl.mem_iff.1 (by simp)
    obtain ⟨T1, T2, t1, p, t2, rfl, rfl, h3, h4⟩ := perm_split hmT hT
    simp only [Prod.mk.injEq] at h3
    have hF1 := hF.exts (ext_drewN w k)
    have hr1 : (w.drewN k).heap[r]? = some (.mapIter (some b) c (E.map (·.born)).toArray c) := hr0
    have hrb : b ≠ r := fun e => by rw [e, hr0] at hb; cases hb
    refine TL.op (w' := (w.drewN k).putObj r (.mapIter (some b) c ((E.map (·.born)).toArray.push Lf[j].born) c)) (v := .tuple #[.bool true, f p.1, g p.2]) (fun ρ hρ => ?_) hd (h1 p (t1 ++ t2) _ List.perm_middle (hF1.putO hr1 rfl hr hfree ?_ ?_))
    · simp only [execOp, hρ x _ hx, Instr.next, Sem.run_bind, run_getObj_o hr0 rfl, run_getObj_o hb rfl, Result.andThen_ok, htest, Bool.false_eq_true, if_false, hLd, e1, e2, hne, Array.append_empty, Array.empty_append, Array.size_map, hrun, Array.getElem?_map, Array.getElem?_eq_getElem hj, Option.map_some, run_setObj_o _ hr1 rfl, h3.1, h3.2]
      rfl
    · unfold dpIt
      refine ⟨es, c, E ++ [Lf[j]], T1 ++ T2, ?_, hR, ?_, ?_, ?_, h4⟩
      · rw [World.putObj_heap_other hrb]; exact hb
      · rw [World.putObj_heap_same (Array.getElem?_eq_some_iff.1 hr1).1]
        simp
      · refine List.Perm.trans ?_ hp
        rw [List.append_assoc]
        exact List.Perm.append_left E (show (Lf[j] :: (T1 ++ T2)).Perm (T1 ++ Lf[j] :: T2) from List.perm_middle.symm)
      · simp [hE, h3.1, h3.2]
    · intro v hv hk
      exact hF.apart v hv _ (List.mem_cons_self ..) (by unfold dpIt at hk ⊢; exact hk)
theorem ev_entry (hF : Fr w0 w L D S) {p : K × V} (hm : dpIt f g r b l (done ++ [p]) todo ∈ D) {x : Operand} (hx : look σ x = some (.pointer (some ⟨r, 0, none⟩))) : Ev P σ w.heap ⟨do_, .entry x, t, pos, af, gd⟩ (.tuple #[f p.1, g p.2]) := by
  have hI := hF.data _ hm
  unfold dpIt at hI
  obtain ⟨es, c, E, T, hb, hR, hr0, hp, hE, hT⟩ := hI
  rw [List.map_append] at hE
  obtain ⟨E1, E2, rfl, h1, h2⟩ := List.map_eq_append_iff.1 hE
  obtain ⟨e, E3, rfl, h3, h4⟩ := List.map_eq_cons_iff.1 h2
  rw [List.map_eq_nil_iff.1 h4] at hp hr0
  simp only [Prod.mk.injEq] at h3
  have hm : e ∈ es.toList := hp.mem_iff.1 (by simp)
  have hf : es.find? (fun x => x.born == e.born) = some e := by rw [← Array.find?_toList]; exact find_born e es.toList hR.nodup hm
  unfold Ev
  intro ρ w1 hρ hw
  rw [← hw] at hb hr0
  have hbk : ((E1 ++ [e]).map (·.born)).toArray.back? = some e.born := by simp
  simp only [execOp, hρ x _ hx, Instr.entry, Sem.run_bind, run_getObj_o hr0 rfl, run_getObj_o hb rfl, Result.andThen_ok, hbk, bne_self_eq_false, Bool.false_eq_true, if_false, hf]
  simp [h3.1, h3.2]
end
attribute [irreducible] dpIt

end Go.Eng

namespace Go.Proofs.Ytlpheckjogphmaa
open Go Go.Eng Go.Proofs
instance : USize Try.prog 1 (.nilFunc) 1 8 := ⟨by kernel_rfl⟩
instance : UOne Try.prog 1 := ⟨⟨_, Try.underlying1, rfl⟩⟩
instance : USize Try.prog 2 (.int .i64 0) 1 8 := ⟨by kernel_rfl⟩
instance : UInt Try.prog 2 .i64 := ⟨Try.underlying2⟩
instance : UOne Try.prog 2 := ⟨⟨_, Try.underlying2, rfl⟩⟩
instance : USize Try.prog 3 (.int .i64 0) 1 8 := ⟨by kernel_rfl⟩
instance : UInt Try.prog 3 .i64 := ⟨Try.underlying3⟩
instance : UOne Try.prog 3 := ⟨⟨_, Try.underlying3, rfl⟩⟩
instance : USize Try.prog 4 (.bool false) 1 1 := ⟨by kernel_rfl⟩
instance : UBool Try.prog 4 := ⟨Try.underlying4⟩
instance : UOne Try.prog 4 := ⟨⟨_, Try.underlying4, rfl⟩⟩
instance : USize Try.prog 5 (.int .u8 0) 1 1 := ⟨by kernel_rfl⟩
instance : UInt Try.prog 5 .u8 := ⟨Try.underlying5⟩
instance : UOne Try.prog 5 := ⟨⟨_, Try.underlying5, rfl⟩⟩
instance : USize Try.prog 6 (.int .u8 0) 1 1 := ⟨by kernel_rfl⟩
instance : UInt Try.prog 6 .u8 := ⟨Try.underlying6⟩
instance : UOne Try.prog 6 := ⟨⟨_, Try.underlying6, rfl⟩⟩
instance : USize Try.prog 7 (.agg #[.int .i64 0, .int .i64 0, .bool false, .int .u8 0]) 4 24 := ⟨by kernel_rfl⟩
instance : UAgg Try.prog 7 := ⟨⟨_, Try.underlying7⟩⟩
instance : UField Try.prog 7 0 2 0 := ⟨⟨_, _, Try.underlying7, rfl, rfl, rfl, by kernel_rfl⟩⟩
instance : UField Try.prog 7 1 3 1 := ⟨⟨_, _, Try.underlying7, rfl, rfl, rfl, by kernel_rfl⟩⟩
instance : UField Try.prog 7 2 4 2 := ⟨⟨_, _, Try.underlying7, rfl, rfl, rfl, by kernel_rfl⟩⟩
instance : UField Try.prog 7 3 6 3 := ⟨⟨_, _, Try.underlying7, rfl, rfl, rfl, by kernel_rfl⟩⟩
instance : USize Try.prog 8 (.agg #[.int .i64 0, .int .i64 0, .bool false, .int .u8 0]) 4 24 := ⟨by kernel_rfl⟩
instance : UAgg Try.prog 8 := ⟨⟨_, Try.underlying8⟩⟩
instance : UField Try.prog 8 0 2 0 := ⟨⟨_, _, Try.underlying8, rfl, rfl, rfl, by kernel_rfl⟩⟩
instance : UField Try.prog 8 1 3 1 := ⟨⟨_, _, Try.underlying8, rfl, rfl, rfl, by kernel_rfl⟩⟩
instance : UField Try.prog 8 2 4 2 := ⟨⟨_, _, Try.underlying8, rfl, rfl, rfl, by kernel_rfl⟩⟩
instance : UField Try.prog 8 3 6 3 := ⟨⟨_, _, Try.underlying8, rfl, rfl, rfl, by kernel_rfl⟩⟩
instance : USize Try.prog 9 (.string ⟨#[]⟩) 1 16 := ⟨by kernel_rfl⟩
instance : UOne Try.prog 9 := ⟨⟨_, Try.underlying9, rfl⟩⟩
instance : USize Try.prog 10 (.string ⟨#[]⟩) 1 16 := ⟨by kernel_rfl⟩
instance : UOne Try.prog 10 := ⟨⟨_, Try.underlying10, rfl⟩⟩
instance : USize Try.prog 11 (.string ⟨#[]⟩) 1 16 := ⟨by kernel_rfl⟩
instance : UOne Try.prog 11 := ⟨⟨_, Try.underlying11, rfl⟩⟩
instance : USize Try.prog 12 (.int .u64 0) 1 8 := ⟨by kernel_rfl⟩
instance : UInt Try.prog 12 .u64 := ⟨Try.underlying12⟩
instance : UOne Try.prog 12 := ⟨⟨_, Try.underlying12, rfl⟩⟩
instance : USize Try.prog 13 (.agg #[.string ⟨#[]⟩, .int .u64 0]) 2 24 := ⟨by kernel_rfl⟩
instance : UAgg Try.prog 13 := ⟨⟨_, Try.underlying13⟩⟩
instance : UField Try.prog 13 0 9 0 := ⟨⟨_, _, Try.underlying13, rfl, rfl, rfl, by kernel_rfl⟩⟩
instance : UField Try.prog 13 1 12 1 := ⟨⟨_, _, Try.underlying13, rfl, rfl, rfl, by kernel_rfl⟩⟩
instance : USize Try.prog 14 (.agg #[.string ⟨#[]⟩, .int .u64 0]) 2 24 := ⟨by kernel_rfl⟩
instance : UAgg Try.prog 14 := ⟨⟨_, Try.underlying14⟩⟩
instance : UField Try.prog 14 0 9 0 := ⟨⟨_, _, Try.underlying14, rfl, rfl, rfl, by kernel_rfl⟩⟩
instance : UField Try.prog 14 1 12 1 := ⟨⟨_, _, Try.underlying14, rfl, rfl, rfl, by kernel_rfl⟩⟩
instance : USize Try.prog 15 (.pointer none) 1 8 := ⟨by kernel_rfl⟩
instance : UOne Try.prog 15 := ⟨⟨_, Try.underlying15, rfl⟩⟩
instance : USize Try.prog 16 (.pointer none) 1 8 := ⟨by kernel_rfl⟩
instance : UOne Try.prog 16 := ⟨⟨_, Try.underlying16, rfl⟩⟩
instance : USize Try.prog 17 (.pointer none) 1 8 := ⟨by kernel_rfl⟩
instance : UOne Try.prog 17 := ⟨⟨_, Try.underlying17, rfl⟩⟩
instance : USize Try.prog 18 (.agg #[.pointer none]) 1 8 := ⟨by kernel_rfl⟩
instance : UAgg Try.prog 18 := ⟨⟨_, Try.underlying18⟩⟩
instance : UField Try.prog 18 0 17 0 := ⟨⟨_, _, Try.underlying18, rfl, rfl, rfl, by kernel_rfl⟩⟩
instance : USize Try.prog 19 (.agg #[.pointer none]) 1 8 := ⟨by kernel_rfl⟩
instance : UAgg Try.prog 19 := ⟨⟨_, Try.underlying19⟩⟩
instance : UField Try.prog 19 0 17 0 := ⟨⟨_, _, Try.underlying19, rfl, rfl, rfl, by kernel_rfl⟩⟩
instance : USize Try.prog 20 (.nilIface) 1 16 := ⟨by kernel_rfl⟩
instance : UOne Try.prog 20 := ⟨⟨_, Try.underlying20, rfl⟩⟩
instance : USize Try.prog 21 (.int .i32 0) 1 4 := ⟨by kernel_rfl⟩
instance : UInt Try.prog 21 .i32 := ⟨Try.underlying21⟩
instance : UOne Try.prog 21 := ⟨⟨_, Try.underlying21, rfl⟩⟩
instance : USize Try.prog 22 (.slice none 0 0) 1 24 := ⟨by kernel_rfl⟩
instance : USlice Try.prog 22 42 := ⟨Try.underlying22⟩
instance : UOne Try.prog 22 := ⟨⟨_, Try.underlying22, rfl⟩⟩
instance : USize Try.prog 23 (.agg #[.int .i64 0, .int .i64 0, .slice none 0 0]) 3 40 := ⟨by kernel_rfl⟩
instance : UAgg Try.prog 23 := ⟨⟨_, Try.underlying23⟩⟩
instance : UField Try.prog 23 0 3 0 := ⟨⟨_, _, Try.underlying23, rfl, rfl, rfl, by kernel_rfl⟩⟩
instance : UField Try.prog 23 1 3 1 := ⟨⟨_, _, Try.underlying23, rfl, rfl, rfl, by kernel_rfl⟩⟩
instance : UField Try.prog 23 2 22 2 := ⟨⟨_, _, Try.underlying23, rfl, rfl, rfl, by kernel_rfl⟩⟩
instance : USize Try.prog 24 (.agg #[.int .i64 0, .int .i64 0, .slice none 0 0]) 3 40 := ⟨by kernel_rfl⟩
instance : UAgg Try.prog 24 := ⟨⟨_, Try.underlying24⟩⟩
instance : UField Try.prog 24 0 3 0 := ⟨⟨_, _, Try.underlying24, rfl, rfl, rfl, by kernel_rfl⟩⟩
instance : UField Try.prog 24 1 3 1 := ⟨⟨_, _, Try.underlying24, rfl, rfl, rfl, by kernel_rfl⟩⟩
instance : UField Try.prog 24 2 22 2 := ⟨⟨_, _, Try.underlying24, rfl, rfl, rfl, by kernel_rfl⟩⟩
instance : USize Try.prog 25 (.slice none 0 0) 1 24 := ⟨by kernel_rfl⟩
instance : USlice Try.prog 25 44 := ⟨Try.underlying25⟩
instance : UOne Try.prog 25 := ⟨⟨_, Try.underlying25, rfl⟩⟩
instance : USize Try.prog 26 (.pointer none) 1 8 := ⟨by kernel_rfl⟩
instance : UOne Try.prog 26 := ⟨⟨_, Try.underlying26, rfl⟩⟩
instance : USize Try.prog 27 (.int .i64 0) 1 8 := ⟨by kernel_rfl⟩
instance : UInt Try.prog 27 .i64 := ⟨Try.underlying27⟩
instance : UOne Try.prog 27 := ⟨⟨_, Try.underlying27, rfl⟩⟩
instance : USize Try.prog 29 (.nilFunc) 1 8 := ⟨by kernel_rfl⟩
instance : UOne Try.prog 29 := ⟨⟨_, Try.underlying29, rfl⟩⟩
instance : USize Try.prog 30 (.nilFunc) 1 8 := ⟨by kernel_rfl⟩
instance : UOne Try.prog 30 := ⟨⟨_, Try.underlying30, rfl⟩⟩
instance : USize Try.prog 31 (.nilFunc) 1 8 := ⟨by kernel_rfl⟩
instance : UOne Try.prog 31 := ⟨⟨_, Try.underlying31, rfl⟩⟩
instance : USize Try.prog 32 (.nilFunc) 1 8 := ⟨by kernel_rfl⟩
instance : UOne Try.prog 32 := ⟨⟨_, Try.underlying32, rfl⟩⟩
instance : USize Try.prog 33 (.slice none 0 0) 1 24 := ⟨by kernel_rfl⟩
instance : USlice Try.prog 33 46 := ⟨Try.underlying33⟩
instance : UOne Try.prog 33 := ⟨⟨_, Try.underlying33, rfl⟩⟩
instance : USize Try.prog 34 (.nilFunc) 1 8 := ⟨by kernel_rfl⟩
instance : UOne Try.prog 34 := ⟨⟨_, Try.underlying34, rfl⟩⟩
instance : USize Try.prog 35 (.nilFunc) 1 8 := ⟨by kernel_rfl⟩
instance : UOne Try.prog 35 := ⟨⟨_, Try.underlying35, rfl⟩⟩
instance : USize Try.prog 36 (.nilFunc) 1 8 := ⟨by kernel_rfl⟩
instance : UOne Try.prog 36 := ⟨⟨_, Try.underlying36, rfl⟩⟩
instance : USize Try.prog 37 (.nilFunc) 1 8 := ⟨by kernel_rfl⟩
instance : UOne Try.prog 37 := ⟨⟨_, Try.underlying37, rfl⟩⟩
instance : USize Try.prog 38 (.nilFunc) 1 8 := ⟨by kernel_rfl⟩
instance : UOne Try.prog 38 := ⟨⟨_, Try.underlying38, rfl⟩⟩
instance : USize Try.prog 39 (.nilFunc) 1 8 := ⟨by kernel_rfl⟩
instance : UOne Try.prog 39 := ⟨⟨_, Try.underlying39, rfl⟩⟩
instance : USize Try.prog 40 (.slice none 0 0) 1 24 := ⟨by kernel_rfl⟩
instance : USlice Try.prog 40 91 := ⟨Try.underlying40⟩
instance : UOne Try.prog 40 := ⟨⟨_, Try.underlying40, rfl⟩⟩
instance : USize Try.prog 41 (.agg #[.bool false, .slice none 0 0]) 2 32 := ⟨by kernel_rfl⟩
instance : UAgg Try.prog 41 := ⟨⟨_, Try.underlying41⟩⟩
instance : UField Try.prog 41 0 4 0 := ⟨⟨_, _, Try.underlying41, rfl, rfl, rfl, by kernel_rfl⟩⟩
instance : UField Try.prog 41 1 40 1 := ⟨⟨_, _, Try.underlying41, rfl, rfl, rfl, by kernel_rfl⟩⟩
instance : USize Try.prog 42 (.agg #[.bool false, .slice none 0 0]) 2 32 := ⟨by kernel_rfl⟩
instance : UAgg Try.prog 42 := ⟨⟨_, Try.underlying42⟩⟩
instance : UField Try.prog 42 0 4 0 := ⟨⟨_, _, Try.underlying42, rfl, rfl, rfl, by kernel_rfl⟩⟩
instance : UField Try.prog 42 1 40 1 := ⟨⟨_, _, Try.underlying42, rfl, rfl, rfl, by kernel_rfl⟩⟩
instance : USize Try.prog 43 (.agg #[.int .i64 0, .int .i64 0, .int .i64 0, .bool false, .slice none 0 0]) 5 56 := ⟨by kernel_rfl⟩
instance : UAgg Try.prog 43 := ⟨⟨_, Try.underlying43⟩⟩
instance : UField Try.prog 43 0 3 0 := ⟨⟨_, _, Try.underlying43, rfl, rfl, rfl, by kernel_rfl⟩⟩
instance : UField Try.prog 43 1 3 1 := ⟨⟨_, _, Try.underlying43, rfl, rfl, rfl, by kernel_rfl⟩⟩
instance : UField Try.prog 43 2 3 2 := ⟨⟨_, _, Try.underlying43, rfl, rfl, rfl, by kernel_rfl⟩⟩
instance : UField Try.prog 43 3 42 3 := ⟨⟨_, _, Try.underlying43, rfl, rfl, rfl, by kernel_rfl⟩⟩
instance : USize Try.prog 44 (.agg #[.int .i64 0, .int .i64 0, .int .i64 0, .bool false, .slice none 0 0]) 5 56 := ⟨by kernel_rfl⟩
instance : UAgg Try.prog 44 := ⟨⟨_, Try.underlying44⟩⟩
instance : UField Try.prog 44 0 3 0 := ⟨⟨_, _, Try.underlying44, rfl, rfl, rfl, by kernel_rfl⟩⟩
instance : UField Try.prog 44 1 3 1 := ⟨⟨_, _, Try.underlying44, rfl, rfl, rfl, by kernel_rfl⟩⟩
instance : UField Try.prog 44 2 3 2 := ⟨⟨_, _, Try.underlying44, rfl, rfl, rfl, by kernel_rfl⟩⟩
instance : UField Try.prog 44 3 42 3 := ⟨⟨_, _, Try.underlying44, rfl, rfl, rfl, by kernel_rfl⟩⟩
instance : USize Try.prog 45 (.agg #[.int .i64 0, .int .i64 0, .bool false, .slice none 0 0]) 4 48 := ⟨by kernel_rfl⟩
instance : UAgg Try.prog 45 := ⟨⟨_, Try.underlying45⟩⟩
instance : UField Try.prog 45 0 3 0 := ⟨⟨_, _, Try.underlying45, rfl, rfl, rfl, by kernel_rfl⟩⟩
instance : UField Try.prog 45 1 3 1 := ⟨⟨_, _, Try.underlying45, rfl, rfl, rfl, by kernel_rfl⟩⟩
instance : UField Try.prog 45 2 42 2 := ⟨⟨_, _, Try.underlying45, rfl, rfl, rfl, by kernel_rfl⟩⟩
instance : USize Try.prog 46 (.agg #[.int .i64 0, .int .i64 0, .bool false, .slice none 0 0]) 4 48 := ⟨by kernel_rfl⟩
instance : UAgg Try.prog 46 := ⟨⟨_, Try.underlying46⟩⟩
instance : UField Try.prog 46 0 3 0 := ⟨⟨_, _, Try.underlying46, rfl, rfl, rfl, by kernel_rfl⟩⟩
instance : UField Try.prog 46 1 3 1 := ⟨⟨_, _, Try.underlying46, rfl, rfl, rfl, by kernel_rfl⟩⟩
instance : UField Try.prog 46 2 42 2 := ⟨⟨_, _, Try.underlying46, rfl, rfl, rfl, by kernel_rfl⟩⟩
instance : USize Try.prog 47 (.nilFunc) 1 8 := ⟨by kernel_rfl⟩
instance : UOne Try.prog 47 := ⟨⟨_, Try.underlying47, rfl⟩⟩
instance : USize Try.prog 48 (.nilFunc) 1 8 := ⟨by kernel_rfl⟩
instance : UOne Try.prog 48 := ⟨⟨_, Try.underlying48, rfl⟩⟩
instance : USize Try.prog 49 (.nilFunc) 1 8 := ⟨by kernel_rfl⟩
instance : UOne Try.prog 49 := ⟨⟨_, Try.underlying49, rfl⟩⟩
instance : USize Try.prog 50 (.agg #[.int .i64 0, .slice none 0 0, .slice none 0 0, .slice none 0 0]) 4 80 := ⟨by kernel_rfl⟩
instance : UAgg Try.prog 50 := ⟨⟨_, Try.underlying50⟩⟩
instance : UField Try.prog 50 0 3 0 := ⟨⟨_, _, Try.underlying50, rfl, rfl, rfl, by kernel_rfl⟩⟩
instance : UField Try.prog 50 1 33 1 := ⟨⟨_, _, Try.underlying50, rfl, rfl, rfl, by kernel_rfl⟩⟩
instance : UField Try.prog 50 2 33 2 := ⟨⟨_, _, Try.underlying50, rfl, rfl, rfl, by kernel_rfl⟩⟩
instance : UField Try.prog 50 3 33 3 := ⟨⟨_, _, Try.underlying50, rfl, rfl, rfl, by kernel_rfl⟩⟩
instance : USize Try.prog 51 (.agg #[.int .i64 0, .slice none 0 0, .slice none 0 0, .slice none 0 0]) 4 80 := ⟨by kernel_rfl⟩
instance : UAgg Try.prog 51 := ⟨⟨_, Try.underlying51⟩⟩
instance : UField Try.prog 51 0 3 0 := ⟨⟨_, _, Try.underlying51, rfl, rfl, rfl, by kernel_rfl⟩⟩
instance : UField Try.prog 51 1 33 1 := ⟨⟨_, _, Try.underlying51, rfl, rfl, rfl, by kernel_rfl⟩⟩
instance : UField Try.prog 51 2 33 2 := ⟨⟨_, _, Try.underlying51, rfl, rfl, rfl, by kernel_rfl⟩⟩
instance : UField Try.prog 51 3 33 3 := ⟨⟨_, _, Try.underlying51, rfl, rfl, rfl, by kernel_rfl⟩⟩
instance : USize Try.prog 52 (.nilFunc) 1 8 := ⟨by kernel_rfl⟩
instance : UOne Try.prog 52 := ⟨⟨_, Try.underlying52, rfl⟩⟩
instance : USize Try.prog 53 (.nilFunc) 1 8 := ⟨by kernel_rfl⟩
instance : UOne Try.prog 53 := ⟨⟨_, Try.underlying53, rfl⟩⟩
instance : USize Try.prog 54 (.nilFunc) 1 8 := ⟨by kernel_rfl⟩
instance : UOne Try.prog 54 := ⟨⟨_, Try.underlying54, rfl⟩⟩
instance : USize Try.prog 55 (.nilFunc) 1 8 := ⟨by kernel_rfl⟩
instance : UOne Try.prog 55 := ⟨⟨_, Try.underlying55, rfl⟩⟩
instance : USize Try.prog 57 (.nilFunc) 1 8 := ⟨by kernel_rfl⟩
instance : UOne Try.prog 57 := ⟨⟨_, Try.underlying57, rfl⟩⟩
instance : USize Try.prog 58 (.nilFunc) 1 8 := ⟨by kernel_rfl⟩
instance : UOne Try.prog 58 := ⟨⟨_, Try.underlying58, rfl⟩⟩
instance : USize Try.prog 59 (.nilFunc) 1 8 := ⟨by kernel_rfl⟩
instance : UOne Try.prog 59 := ⟨⟨_, Try.underlying59, rfl⟩⟩
instance : USize Try.prog 60 (.nilFunc) 1 8 := ⟨by kernel_rfl⟩
instance : UOne Try.prog 60 := ⟨⟨_, Try.underlying60, rfl⟩⟩
instance : USize Try.prog 61 (.nilFunc) 1 8 := ⟨by kernel_rfl⟩
instance : UOne Try.prog 61 := ⟨⟨_, Try.underlying61, rfl⟩⟩
instance : USize Try.prog 62 (.nilFunc) 1 8 := ⟨by kernel_rfl⟩
instance : UOne Try.prog 62 := ⟨⟨_, Try.underlying62, rfl⟩⟩
instance : USize Try.prog 63 (.nilFunc) 1 8 := ⟨by kernel_rfl⟩
instance : UOne Try.prog 63 := ⟨⟨_, Try.underlying63, rfl⟩⟩
instance : USize Try.prog 65 (.nilFunc) 1 8 := ⟨by kernel_rfl⟩
instance : UOne Try.prog 65 := ⟨⟨_, Try.underlying65, rfl⟩⟩
instance : USize Try.prog 66 (.nilFunc) 1 8 := ⟨by kernel_rfl⟩
instance : UOne Try.prog 66 := ⟨⟨_, Try.underlying66, rfl⟩⟩
instance : USize Try.prog 67 (.nilFunc) 1 8 := ⟨by kernel_rfl⟩
instance : UOne Try.prog 67 := ⟨⟨_, Try.underlying67, rfl⟩⟩
instance : USize Try.prog 69 (.nilFunc) 1 8 := ⟨by kernel_rfl⟩
instance : UOne Try.prog 69 := ⟨⟨_, Try.underlying69, rfl⟩⟩
instance : USize Try.prog 70 (.nilFunc) 1 8 := ⟨by kernel_rfl⟩
instance : UOne Try.prog 70 := ⟨⟨_, Try.underlying70, rfl⟩⟩
instance : USize Try.prog 72 (.nilFunc) 1 8 := ⟨by kernel_rfl⟩
instance : UOne Try.prog 72 := ⟨⟨_, Try.underlying72, rfl⟩⟩
instance : USize Try.prog 73 (.nilFunc) 1 8 := ⟨by kernel_rfl⟩
instance : UOne Try.prog 73 := ⟨⟨_, Try.underlying73, rfl⟩⟩
instance : USize Try.prog 74 (.nilFunc) 1 8 := ⟨by kernel_rfl⟩
instance : UOne Try.prog 74 := ⟨⟨_, Try.underlying74, rfl⟩⟩
instance : USize Try.prog 75 (.nilFunc) 1 8 := ⟨by kernel_rfl⟩
instance : UOne Try.prog 75 := ⟨⟨_, Try.underlying75, rfl⟩⟩
instance : USize Try.prog 76 (.nilFunc) 1 8 := ⟨by kernel_rfl⟩
instance : UOne Try.prog 76 := ⟨⟨_, Try.underlying76, rfl⟩⟩
instance : USize Try.prog 77 (.nilFunc) 1 8 := ⟨by kernel_rfl⟩
instance : UOne Try.prog 77 := ⟨⟨_, Try.underlying77, rfl⟩⟩
instance : USize Try.prog 79 (.nilFunc) 1 8 := ⟨by kernel_rfl⟩
instance : UOne Try.prog 79 := ⟨⟨_, Try.underlying79, rfl⟩⟩
instance : USize Try.prog 80 (.nilFunc) 1 8 := ⟨by kernel_rfl⟩
instance : UOne Try.prog 80 := ⟨⟨_, Try.underlying80, rfl⟩⟩
instance : USize Try.prog 81 (.nilFunc) 1 8 := ⟨by kernel_rfl⟩
instance : UOne Try.prog 81 := ⟨⟨_, Try.underlying81, rfl⟩⟩
instance : USize Try.prog 82 (.nilFunc) 1 8 := ⟨by kernel_rfl⟩
instance : UOne Try.prog 82 := ⟨⟨_, Try.underlying82, rfl⟩⟩
instance : USize Try.prog 83 (.nilFunc) 1 8 := ⟨by kernel_rfl⟩
instance : UOne Try.prog 83 := ⟨⟨_, Try.underlying83, rfl⟩⟩
instance : USize Try.prog 84 (.nilFunc) 1 8 := ⟨by kernel_rfl⟩
instance : UOne Try.prog 84 := ⟨⟨_, Try.underlying84, rfl⟩⟩
instance : USize Try.prog 85 (.nilFunc) 1 8 := ⟨by kernel_rfl⟩
instance : UOne Try.prog 85 := ⟨⟨_, Try.underlying85, rfl⟩⟩
instance : USize Try.prog 86 (.nilFunc) 1 8 := ⟨by kernel_rfl⟩
instance : UOne Try.prog 86 := ⟨⟨_, Try.underlying86, rfl⟩⟩
instance : USize Try.prog 87 (.nilFunc) 1 8 := ⟨by kernel_rfl⟩
instance : UOne Try.prog 87 := ⟨⟨_, Try.underlying87, rfl⟩⟩
instance : USize Try.prog 88 (.agg #[.int .i64 0, .int .i64 0]) 2 16 := ⟨by kernel_rfl⟩
instance : UAgg Try.prog 88 := ⟨⟨_, Try.underlying88⟩⟩
instance : UField Try.prog 88 0 3 0 := ⟨⟨_, _, Try.underlying88, rfl, rfl, rfl, by kernel_rfl⟩⟩
instance : UField Try.prog 88 1 3 1 := ⟨⟨_, _, Try.underlying88, rfl, rfl, rfl, by kernel_rfl⟩⟩
instance : USize Try.prog 89 (.agg #[.int .i64 0, .int .i64 0]) 2 16 := ⟨by kernel_rfl⟩
instance : UAgg Try.prog 89 := ⟨⟨_, Try.underlying89⟩⟩
instance : UField Try.prog 89 0 3 0 := ⟨⟨_, _, Try.underlying89, rfl, rfl, rfl, by kernel_rfl⟩⟩
instance : UField Try.prog 89 1 3 1 := ⟨⟨_, _, Try.underlying89, rfl, rfl, rfl, by kernel_rfl⟩⟩
instance : USize Try.prog 90 (.nilFunc) 1 8 := ⟨by kernel_rfl⟩
instance : UOne Try.prog 90 := ⟨⟨_, Try.underlying90, rfl⟩⟩
instance : USize Try.prog 91 (.int .u64 0) 1 8 := ⟨by kernel_rfl⟩
instance : UInt Try.prog 91 .u64 := ⟨Try.underlying91⟩
instance : UOne Try.prog 91 := ⟨⟨_, Try.underlying91, rfl⟩⟩
instance : USize Try.prog 92 (.nilFunc) 1 8 := ⟨by kernel_rfl⟩
instance : UOne Try.prog 92 := ⟨⟨_, Try.underlying92, rfl⟩⟩
instance : USize Try.prog 93 (.nilFunc) 1 8 := ⟨by kernel_rfl⟩
instance : UOne Try.prog 93 := ⟨⟨_, Try.underlying93, rfl⟩⟩
instance : USize Try.prog 94 (.map none) 1 8 := ⟨by kernel_rfl⟩
instance : UOne Try.prog 94 := ⟨⟨_, Try.underlying94, rfl⟩⟩
instance : USize Try.prog 95 (.agg #[.int .i64 0, .int .i64 0, .map none]) 3 24 := ⟨by kernel_rfl⟩
instance : UAgg Try.prog 95 := ⟨⟨_, Try.underlying95⟩⟩
instance : UField Try.prog 95 0 3 0 := ⟨⟨_, _, Try.underlying95, rfl, rfl, rfl, by kernel_rfl⟩⟩
instance : UField Try.prog 95 1 3 1 := ⟨⟨_, _, Try.underlying95, rfl, rfl, rfl, by kernel_rfl⟩⟩
instance : UField Try.prog 95 2 94 2 := ⟨⟨_, _, Try.underlying95, rfl, rfl, rfl, by kernel_rfl⟩⟩
instance : USize Try.prog 96 (.agg #[.int .i64 0, .int .i64 0, .map none]) 3 24 := ⟨by kernel_rfl⟩
instance : UAgg Try.prog 96 := ⟨⟨_, Try.underlying96⟩⟩
instance : UField Try.prog 96 0 3 0 := ⟨⟨_, _, Try.underlying96, rfl, rfl, rfl, by kernel_rfl⟩⟩
instance : UField Try.prog 96 1 3 1 := ⟨⟨_, _, Try.underlying96, rfl, rfl, rfl, by kernel_rfl⟩⟩
instance : UField Try.prog 96 2 94 2 := ⟨⟨_, _, Try.underlying96, rfl, rfl, rfl, by kernel_rfl⟩⟩
instance : USize Try.prog 97 (.nilFunc) 1 8 := ⟨by kernel_rfl⟩
instance : UOne Try.prog 97 := ⟨⟨_, Try.underlying97, rfl⟩⟩
instance : USize Try.prog 98 (.nilFunc) 1 8 := ⟨by kernel_rfl⟩
instance : UOne Try.prog 98 := ⟨⟨_, Try.underlying98, rfl⟩⟩
instance : USize Try.prog 99 (.nilFunc) 1 8 := ⟨by kernel_rfl⟩
instance : UOne Try.prog 99 := ⟨⟨_, Try.underlying99, rfl⟩⟩
instance : USize Try.prog 100 (.nilFunc) 1 8 := ⟨by kernel_rfl⟩
instance : UOne Try.prog 100 := ⟨⟨_, Try.underlying100, rfl⟩⟩
instance : USize Try.prog 101 (.nilFunc) 1 8 := ⟨by kernel_rfl⟩
instance : UOne Try.prog 101 := ⟨⟨_, Try.underlying101, rfl⟩⟩
instance : USize Try.prog 102 (.nilFunc) 1 8 := ⟨by kernel_rfl⟩
instance : UOne Try.prog 102 := ⟨⟨_, Try.underlying102, rfl⟩⟩
instance : USize Try.prog 104 (.nilFunc) 1 8 := ⟨by kernel_rfl⟩
instance : UOne Try.prog 104 := ⟨⟨_, Try.underlying104, rfl⟩⟩
instance : USize Try.prog 105 (.map none) 1 8 := ⟨by kernel_rfl⟩
instance : UOne Try.prog 105 := ⟨⟨_, Try.underlying105, rfl⟩⟩
instance : USize Try.prog 106 (.nilFunc) 1 8 := ⟨by kernel_rfl⟩
instance : UOne Try.prog 106 := ⟨⟨_, Try.underlying106, rfl⟩⟩
instance : USize Try.prog 107 (.map none) 1 8 := ⟨by kernel_rfl⟩
instance : UOne Try.prog 107 := ⟨⟨_, Try.underlying107, rfl⟩⟩
instance : USize Try.prog 108 (.nilFunc) 1 8 := ⟨by kernel_rfl⟩
instance : UOne Try.prog 108 := ⟨⟨_, Try.underlying108, rfl⟩⟩
instance : USize Try.prog 109 (.nilFunc) 1 8 := ⟨by kernel_rfl⟩
instance : UOne Try.prog 109 := ⟨⟨_, Try.underlying109, rfl⟩⟩
instance : USize Try.prog 110 (.nilFunc) 1 8 := ⟨by kernel_rfl⟩
instance : UOne Try.prog 110 := ⟨⟨_, Try.underlying110, rfl⟩⟩
instance : USize Try.prog 111 (.nilFunc) 1 8 := ⟨by kernel_rfl⟩
instance : UOne Try.prog 111 := ⟨⟨_, Try.underlying111, rfl⟩⟩
instance : USize Try.prog 112 (.nilFunc) 1 8 := ⟨by kernel_rfl⟩
instance : UOne Try.prog 112 := ⟨⟨_, Try.underlying112, rfl⟩⟩
instance : USize Try.prog 113 (.nilFunc) 1 8 := ⟨by kernel_rfl⟩
instance : UOne Try.prog 113 := ⟨⟨_, Try.underlying113, rfl⟩⟩
instance : USize Try.prog 114 (.nilFunc) 1 8 := ⟨by kernel_rfl⟩
instance : UOne Try.prog 114 := ⟨⟨_, Try.underlying114, rfl⟩⟩
instance : USize Try.prog 116 (.nilFunc) 1 8 := ⟨by kernel_rfl⟩
instance : UOne Try.prog 116 := ⟨⟨_, Try.underlying116, rfl⟩⟩
instance : USize Try.prog 117 (.nilFunc) 1 8 := ⟨by kernel_rfl⟩
instance : UOne Try.prog 117 := ⟨⟨_, Try.underlying117, rfl⟩⟩
instance : USize Try.prog 118 (.nilFunc) 1 8 := ⟨by kernel_rfl⟩
instance : UOne Try.prog 118 := ⟨⟨_, Try.underlying118, rfl⟩⟩
instance : USize Try.prog 119 (.nilFunc) 1 8 := ⟨by kernel_rfl⟩
instance : UOne Try.prog 119 := ⟨⟨_, Try.underlying119, rfl⟩⟩
instance : USize Try.prog 120 (.nilFunc) 1 8 := ⟨by kernel_rfl⟩
instance : UOne Try.prog 120 := ⟨⟨_, Try.underlying120, rfl⟩⟩
instance : USize Try.prog 121 (.nilFunc) 1 8 := ⟨by kernel_rfl⟩
instance : UOne Try.prog 121 := ⟨⟨_, Try.underlying121, rfl⟩⟩
instance : USize Try.prog 122 (.nilFunc) 1 8 := ⟨by kernel_rfl⟩
instance : UOne Try.prog 122 := ⟨⟨_, Try.underlying122, rfl⟩⟩
instance : USize Try.prog 123 (.nilFunc) 1 8 := ⟨by kernel_rfl⟩
instance : UOne Try.prog 123 := ⟨⟨_, Try.underlying123, rfl⟩⟩
instance : USize Try.prog 124 (.nilFunc) 1 8 := ⟨by kernel_rfl⟩
instance : UOne Try.prog 124 := ⟨⟨_, Try.underlying124, rfl⟩⟩
instance : USize Try.prog 125 (.slice none 0 0) 1 24 := ⟨by kernel_rfl⟩
instance : USlice Try.prog 125 3 := ⟨Try.underlying125⟩
instance : UOne Try.prog 125 := ⟨⟨_, Try.underlying125, rfl⟩⟩
instance : USize Try.prog 126 (.nilFunc) 1 8 := ⟨by kernel_rfl⟩
instance : UOne Try.prog 126 := ⟨⟨_, Try.underlying126, rfl⟩⟩
instance : USize Try.prog 127 (.nilFunc) 1 8 := ⟨by kernel_rfl⟩
instance : UOne Try.prog 127 := ⟨⟨_, Try.underlying127, rfl⟩⟩
instance : USize Try.prog 128 (.nilFunc) 1 8 := ⟨by kernel_rfl⟩
instance : UOne Try.prog 128 := ⟨⟨_, Try.underlying128, rfl⟩⟩
instance : USize Try.prog 129 (.nilFunc) 1 8 := ⟨by kernel_rfl⟩
instance : UOne Try.prog 129 := ⟨⟨_, Try.underlying129, rfl⟩⟩
instance : USize Try.prog 130 (.nilFunc) 1 8 := ⟨by kernel_rfl⟩
instance : UOne Try.prog 130 := ⟨⟨_, Try.underlying130, rfl⟩⟩
instance : USize Try.prog 131 (.int .u64 0) 1 8 := ⟨by kernel_rfl⟩
instance : UInt Try.prog 131 .u64 := ⟨Try.underlying131⟩
instance : UOne Try.prog 131 := ⟨⟨_, Try.underlying131, rfl⟩⟩
instance : USize Try.prog 133 (.nilFunc) 1 8 := ⟨by kernel_rfl⟩
instance : UOne Try.prog 133 := ⟨⟨_, Try.underlying133, rfl⟩⟩
instance : USize Try.prog 134 (.nilFunc) 1 8 := ⟨by kernel_rfl⟩
instance : UOne Try.prog 134 := ⟨⟨_, Try.underlying134, rfl⟩⟩
instance : USize Try.prog 135 (.slice none 0 0) 1 24 := ⟨by kernel_rfl⟩
instance : USlice Try.prog 135 24 := ⟨Try.underlying135⟩
instance : UOne Try.prog 135 := ⟨⟨_, Try.underlying135, rfl⟩⟩
instance : USize Try.prog 136 (.nilFunc) 1 8 := ⟨by kernel_rfl⟩
instance : UOne Try.prog 136 := ⟨⟨_, Try.underlying136, rfl⟩⟩
instance : USize Try.prog 137 (.nilFunc) 1 8 := ⟨by kernel_rfl⟩
instance : UOne Try.prog 137 := ⟨⟨_, Try.underlying137, rfl⟩⟩
instance : USize Try.prog 138 (.int .i64 0) 1 8 := ⟨by kernel_rfl⟩
instance : UInt Try.prog 138 .i64 := ⟨Try.underlying138⟩
instance : UOne Try.prog 138 := ⟨⟨_, Try.underlying138, rfl⟩⟩
instance : USize Try.prog 140 (.nilFunc) 1 8 := ⟨by kernel_rfl⟩
instance : UOne Try.prog 140 := ⟨⟨_, Try.underlying140, rfl⟩⟩
instance : USize Try.prog 141 (.nilFunc) 1 8 := ⟨by kernel_rfl⟩
instance : UOne Try.prog 141 := ⟨⟨_, Try.underlying141, rfl⟩⟩
instance : USize Try.prog 142 (.nilFunc) 1 8 := ⟨by kernel_rfl⟩
instance : UOne Try.prog 142 := ⟨⟨_, Try.underlying142, rfl⟩⟩
instance : USize Try.prog 144 (.nilFunc) 1 8 := ⟨by kernel_rfl⟩
instance : UOne Try.prog 144 := ⟨⟨_, Try.underlying144, rfl⟩⟩
instance : USize Try.prog 145 (.nilFunc) 1 8 := ⟨by kernel_rfl⟩
instance : UOne Try.prog 145 := ⟨⟨_, Try.underlying145, rfl⟩⟩
instance : USize Try.prog 146 (.int .u32 0) 1 4 := ⟨by kernel_rfl⟩
instance : UInt Try.prog 146 .u32 := ⟨Try.underlying146⟩
instance : UOne Try.prog 146 := ⟨⟨_, Try.underlying146, rfl⟩⟩
instance : USize Try.prog 147 (.int .u64 0) 1 8 := ⟨by kernel_rfl⟩
instance : UInt Try.prog 147 .u64 := ⟨Try.underlying147⟩
instance : UOne Try.prog 147 := ⟨⟨_, Try.underlying147, rfl⟩⟩
instance : USize Try.prog 148 (.nilFunc) 1 8 := ⟨by kernel_rfl⟩
instance : UOne Try.prog 148 := ⟨⟨_, Try.underlying148, rfl⟩⟩
instance : USize Try.prog 149 (.nilFunc) 1 8 := ⟨by kernel_rfl⟩
instance : UOne Try.prog 149 := ⟨⟨_, Try.underlying149, rfl⟩⟩
instance : USize Try.prog 150 (.nilFunc) 1 8 := ⟨by kernel_rfl⟩
instance : UOne Try.prog 150 := ⟨⟨_, Try.underlying150, rfl⟩⟩
instance : USize Try.prog 151 (.pointer none) 1 8 := ⟨by kernel_rfl⟩
instance : UOne Try.prog 151 := ⟨⟨_, Try.underlying151, rfl⟩⟩
instance : USize Try.prog 152 (.nilFunc) 1 8 := ⟨by kernel_rfl⟩
instance : UOne Try.prog 152 := ⟨⟨_, Try.underlying152, rfl⟩⟩
instance : USize Try.prog 153 (.pointer none) 1 8 := ⟨by kernel_rfl⟩
instance : UOne Try.prog 153 := ⟨⟨_, Try.underlying153, rfl⟩⟩
instance : USize Try.prog 154 (.nilFunc) 1 8 := ⟨by kernel_rfl⟩
instance : UOne Try.prog 154 := ⟨⟨_, Try.underlying154, rfl⟩⟩
instance : USize Try.prog 155 (.nilFunc) 1 8 := ⟨by kernel_rfl⟩
instance : UOne Try.prog 155 := ⟨⟨_, Try.underlying155, rfl⟩⟩
instance : USize Try.prog 156 (.nilFunc) 1 8 := ⟨by kernel_rfl⟩
instance : UOne Try.prog 156 := ⟨⟨_, Try.underlying156, rfl⟩⟩
instance : USize Try.prog 157 (.nilFunc) 1 8 := ⟨by kernel_rfl⟩
instance : UOne Try.prog 157 := ⟨⟨_, Try.underlying157, rfl⟩⟩
instance : USize Try.prog 158 (.nilFunc) 1 8 := ⟨by kernel_rfl⟩
instance : UOne Try.prog 158 := ⟨⟨_, Try.underlying158, rfl⟩⟩
instance : USize Try.prog 159 (.agg #[.pointer none, .pointer none, .pointer none, .string ⟨#[]⟩]) 4 40 := ⟨by kernel_rfl⟩
instance : UAgg Try.prog 159 := ⟨⟨_, Try.underlying159⟩⟩
instance : UField Try.prog 159 0 17 0 := ⟨⟨_, _, Try.underlying159, rfl, rfl, rfl, by kernel_rfl⟩⟩
instance : UField Try.prog 159 1 17 1 := ⟨⟨_, _, Try.underlying159, rfl, rfl, rfl, by kernel_rfl⟩⟩
instance : UField Try.prog 159 2 17 2 := ⟨⟨_, _, Try.underlying159, rfl, rfl, rfl, by kernel_rfl⟩⟩
instance : UField Try.prog 159 3 9 3 := ⟨⟨_, _, Try.underlying159, rfl, rfl, rfl, by kernel_rfl⟩⟩
instance : USize Try.prog 160 (.agg #[.pointer none, .pointer none, .pointer none, .string ⟨#[]⟩]) 4 40 := ⟨by kernel_rfl⟩
instance : UAgg Try.prog 160 := ⟨⟨_, Try.underlying160⟩⟩
instance : UField Try.prog 160 0 17 0 := ⟨⟨_, _, Try.underlying160, rfl, rfl, rfl, by kernel_rfl⟩⟩
instance : UField Try.prog 160 1 17 1 := ⟨⟨_, _, Try.underlying160, rfl, rfl, rfl, by kernel_rfl⟩⟩
instance : UField Try.prog 160 2 17 2 := ⟨⟨_, _, Try.underlying160, rfl, rfl, rfl, by kernel_rfl⟩⟩
instance : UField Try.prog 160 3 9 3 := ⟨⟨_, _, Try.underlying160, rfl, rfl, rfl, by kernel_rfl⟩⟩
instance : USize Try.prog 161 (.agg #[]) 0 0 := ⟨by kernel_rfl⟩
instance : USize Try.prog 162 (.agg #[]) 0 0 := ⟨by kernel_rfl⟩
instance : UAgg Try.prog 162 := ⟨⟨_, Try.underlying162⟩⟩
instance : USize Try.prog 163 (.agg #[]) 0 0 := ⟨by kernel_rfl⟩
instance : UAgg Try.prog 163 := ⟨⟨_, Try.underlying163⟩⟩
instance : USize Try.prog 164 (.int .u8 0) 1 1 := ⟨by kernel_rfl⟩
instance : UInt Try.prog 164 .u8 := ⟨Try.underlying164⟩
instance : UOne Try.prog 164 := ⟨⟨_, Try.underlying164, rfl⟩⟩
instance : USize Try.prog 165 (.int .u8 0) 1 1 := ⟨by kernel_rfl⟩
instance : UInt Try.prog 165 .u8 := ⟨Try.underlying165⟩
instance : UOne Try.prog 165 := ⟨⟨_, Try.underlying165, rfl⟩⟩
instance : USize Try.prog 166 (.nilFunc) 1 8 := ⟨by kernel_rfl⟩
instance : UOne Try.prog 166 := ⟨⟨_, Try.underlying166, rfl⟩⟩
instance : USize Try.prog 167 (.pointer none) 1 8 := ⟨by kernel_rfl⟩
instance : UOne Try.prog 167 := ⟨⟨_, Try.underlying167, rfl⟩⟩
instance : USize Try.prog 168 (.int .i32 0) 1 4 := ⟨by kernel_rfl⟩
instance : UInt Try.prog 168 .i32 := ⟨Try.underlying168⟩
instance : UOne Try.prog 168 := ⟨⟨_, Try.underlying168, rfl⟩⟩
instance : USize Try.prog 169 (.int .i32 0) 1 4 := ⟨by kernel_rfl⟩
instance : UInt Try.prog 169 .i32 := ⟨Try.underlying169⟩
instance : UOne Try.prog 169 := ⟨⟨_, Try.underlying169, rfl⟩⟩
instance : USize Try.prog 170 (.agg #[.int .u64 0, .int .u64 0, .int .u32 0, .int .u8 0, .int .u8 0, .int .u8 0, .int .u8 0, .nilFunc, .pointer none, .int .i32 0, .int .i32 0]) 11 48 := ⟨by kernel_rfl⟩
instance : UAgg Try.prog 170 := ⟨⟨_, Try.underlying170⟩⟩
instance : UField Try.prog 170 0 12 0 := ⟨⟨_, _, Try.underlying170, rfl, rfl, rfl, by kernel_rfl⟩⟩
instance : UField Try.prog 170 1 12 1 := ⟨⟨_, _, Try.underlying170, rfl, rfl, rfl, by kernel_rfl⟩⟩
instance : UField Try.prog 170 2 146 2 := ⟨⟨_, _, Try.underlying170, rfl, rfl, rfl, by kernel_rfl⟩⟩
instance : UField Try.prog 170 3 164 3 := ⟨⟨_, _, Try.underlying170, rfl, rfl, rfl, by kernel_rfl⟩⟩
instance : UField Try.prog 170 4 5 4 := ⟨⟨_, _, Try.underlying170, rfl, rfl, rfl, by kernel_rfl⟩⟩
instance : UField Try.prog 170 5 5 5 := ⟨⟨_, _, Try.underlying170, rfl, rfl, rfl, by kernel_rfl⟩⟩
instance : UField Try.prog 170 6 165 6 := ⟨⟨_, _, Try.underlying170, rfl, rfl, rfl, by kernel_rfl⟩⟩
instance : UField Try.prog 170 7 166 7 := ⟨⟨_, _, Try.underlying170, rfl, rfl, rfl, by kernel_rfl⟩⟩
instance : UField Try.prog 170 8 167 8 := ⟨⟨_, _, Try.underlying170, rfl, rfl, rfl, by kernel_rfl⟩⟩
instance : UField Try.prog 170 9 168 9 := ⟨⟨_, _, Try.underlying170, rfl, rfl, rfl, by kernel_rfl⟩⟩
instance : UField Try.prog 170 10 169 10 := ⟨⟨_, _, Try.underlying170, rfl, rfl, rfl, by kernel_rfl⟩⟩
instance : USize Try.prog 171 (.agg #[.int .u64 0, .int .u64 0, .int .u32 0, .int .u8 0, .int .u8 0, .int .u8 0, .int .u8 0, .nilFunc, .pointer none, .int .i32 0, .int .i32 0]) 11 48 := ⟨by kernel_rfl⟩
instance : UAgg Try.prog 171 := ⟨⟨_, Try.underlying171⟩⟩
instance : UField Try.prog 171 0 12 0 := ⟨⟨_, _, Try.underlying171, rfl, rfl, rfl, by kernel_rfl⟩⟩
instance : UField Try.prog 171 1 12 1 := ⟨⟨_, _, Try.underlying171, rfl, rfl, rfl, by kernel_rfl⟩⟩
instance : UField Try.prog 171 2 146 2 := ⟨⟨_, _, Try.underlying171, rfl, rfl, rfl, by kernel_rfl⟩⟩
instance : UField Try.prog 171 3 164 3 := ⟨⟨_, _, Try.underlying171, rfl, rfl, rfl, by kernel_rfl⟩⟩
instance : UField Try.prog 171 4 5 4 := ⟨⟨_, _, Try.underlying171, rfl, rfl, rfl, by kernel_rfl⟩⟩
instance : UField Try.prog 171 5 5 5 := ⟨⟨_, _, Try.underlying171, rfl, rfl, rfl, by kernel_rfl⟩⟩
instance : UField Try.prog 171 6 165 6 := ⟨⟨_, _, Try.underlying171, rfl, rfl, rfl, by kernel_rfl⟩⟩
instance : UField Try.prog 171 7 166 7 := ⟨⟨_, _, Try.underlying171, rfl, rfl, rfl, by kernel_rfl⟩⟩
instance : UField Try.prog 171 8 167 8 := ⟨⟨_, _, Try.underlying171, rfl, rfl, rfl, by kernel_rfl⟩⟩
instance : UField Try.prog 171 9 168 9 := ⟨⟨_, _, Try.underlying171, rfl, rfl, rfl, by kernel_rfl⟩⟩
instance : UField Try.prog 171 10 169 10 := ⟨⟨_, _, Try.underlying171, rfl, rfl, rfl, by kernel_rfl⟩⟩
instance : USize Try.prog 172 (.pointer none) 1 8 := ⟨by kernel_rfl⟩
instance : IsFn Try.prog 3 := ⟨⟨_, Try.func3, by kernel_rfl, by kernel_rfl⟩⟩
instance : IsFn Try.prog 4 := ⟨⟨_, Try.func4, by kernel_rfl, by kernel_rfl⟩⟩
instance : IsFn Try.prog 5 := ⟨⟨_, Try.func5, by kernel_rfl, by kernel_rfl⟩⟩
instance : IsFn Try.prog 6 := ⟨⟨_, Try.func6, by kernel_rfl, by kernel_rfl⟩⟩
instance : IsFn Try.prog 7 := ⟨⟨_, Try.func7, by kernel_rfl, by kernel_rfl⟩⟩
instance : IsFn Try.prog 8 := ⟨⟨_, Try.func8, by kernel_rfl, by kernel_rfl⟩⟩
instance : IsFn Try.prog 9 := ⟨⟨_, Try.func9, by kernel_rfl, by kernel_rfl⟩⟩
instance : IsFn Try.prog 10 := ⟨⟨_, Try.func10, by kernel_rfl, by kernel_rfl⟩⟩
instance : IsFn Try.prog 11 := ⟨⟨_, Try.func11, by kernel_rfl, by kernel_rfl⟩⟩
instance : IsFn Try.prog 12 := ⟨⟨_, Try.func12, by kernel_rfl, by kernel_rfl⟩⟩
instance : IsFn Try.prog 13 := ⟨⟨_, Try.func13, by kernel_rfl, by kernel_rfl⟩⟩
instance : IsFn Try.prog 14 := ⟨⟨_, Try.func14, by kernel_rfl, by kernel_rfl⟩⟩
instance : IsFn Try.prog 15 := ⟨⟨_, Try.func15, by kernel_rfl, by kernel_rfl⟩⟩
instance : IsFn Try.prog 16 := ⟨⟨_, Try.func16, by kernel_rfl, by kernel_rfl⟩⟩
instance : IsFn Try.prog 17 := ⟨⟨_, Try.func17, by kernel_rfl, by kernel_rfl⟩⟩
instance : IsFn Try.prog 18 := ⟨⟨_, Try.func18, by kernel_rfl, by kernel_rfl⟩⟩
instance : IsFn Try.prog 19 := ⟨⟨_, Try.func19, by kernel_rfl, by kernel_rfl⟩⟩
instance : IsFn Try.prog 20 := ⟨⟨_, Try.func20, by kernel_rfl, by kernel_rfl⟩⟩
instance : IsFn Try.prog 21 := ⟨⟨_, Try.func21, by kernel_rfl, by kernel_rfl⟩⟩
instance : IsFn Try.prog 22 := ⟨⟨_, Try.func22, by kernel_rfl, by kernel_rfl⟩⟩
instance : IsFn Try.prog 23 := ⟨⟨_, Try.func23, by kernel_rfl, by kernel_rfl⟩⟩
instance : IsFn Try.prog 24 := ⟨⟨_, Try.func24, by kernel_rfl, by kernel_rfl⟩⟩
instance : IsFn Try.prog 25 := ⟨⟨_, Try.func25, by kernel_rfl, by kernel_rfl⟩⟩
instance : IsFn Try.prog 26 := ⟨⟨_, Try.func26, by kernel_rfl, by kernel_rfl⟩⟩
instance : IsFn Try.prog 27 := ⟨⟨_, Try.func27, by kernel_rfl, by kernel_rfl⟩⟩
instance : IsFn Try.prog 28 := ⟨⟨_, Try.func28, by kernel_rfl, by kernel_rfl⟩⟩
instance : IsFn Try.prog 29 := ⟨⟨_, Try.func29, by kernel_rfl, by kernel_rfl⟩⟩
instance : IsFn Try.prog 30 := ⟨⟨_, Try.func30, by kernel_rfl, by kernel_rfl⟩⟩
instance : IsFn Try.prog 31 := ⟨⟨_, Try.func31, by kernel_rfl, by kernel_rfl⟩⟩
instance : IsFn Try.prog 32 := ⟨⟨_, Try.func32, by kernel_rfl, by kernel_rfl⟩⟩
instance : IsFn Try.prog 33 := ⟨⟨_, Try.func33, by kernel_rfl, by kernel_rfl⟩⟩
instance : IsFn Try.prog 34 := ⟨⟨_, Try.func34, by kernel_rfl, by kernel_rfl⟩⟩
instance : IsFn Try.prog 35 := ⟨⟨_, Try.func35, by kernel_rfl, by kernel_rfl⟩⟩
instance : IsFn Try.prog 36 := ⟨⟨_, Try.func36, by kernel_rfl, by kernel_rfl⟩⟩
instance : IsFn Try.prog 37 := ⟨⟨_, Try.func37, by kernel_rfl, by kernel_rfl⟩⟩
instance : IsFn Try.prog 38 := ⟨⟨_, Try.func38, by kernel_rfl, by kernel_rfl⟩⟩
instance : IsFn Try.prog 39 := ⟨⟨_, Try.func39, by kernel_rfl, by kernel_rfl⟩⟩
instance : IsFn Try.prog 40 := ⟨⟨_, Try.func40, by kernel_rfl, by kernel_rfl⟩⟩
instance : IsFn Try.prog 41 := ⟨⟨_, Try.func41, by kernel_rfl, by kernel_rfl⟩⟩
instance : IsFn Try.prog 42 := ⟨⟨_, Try.func42, by kernel_rfl, by kernel_rfl⟩⟩
instance : IsFn Try.prog 43 := ⟨⟨_, Try.func43, by kernel_rfl, by kernel_rfl⟩⟩
instance : IsFn Try.prog 44 := ⟨⟨_, Try.func44, by kernel_rfl, by kernel_rfl⟩⟩
instance : IsFn Try.prog 45 := ⟨⟨_, Try.func45, by kernel_rfl, by kernel_rfl⟩⟩
instance : IsFn Try.prog 46 := ⟨⟨_, Try.func46, by kernel_rfl, by kernel_rfl⟩⟩
instance : IsFn Try.prog 47 := ⟨⟨_, Try.func47, by kernel_rfl, by kernel_rfl⟩⟩
instance : IsFn Try.prog 48 := ⟨⟨_, Try.func48, by kernel_rfl, by kernel_rfl⟩⟩
instance : IsFn Try.prog 49 := ⟨⟨_, Try.func49, by kernel_rfl, by kernel_rfl⟩⟩
instance : IsFn Try.prog 50 := ⟨⟨_, Try.func50, by kernel_rfl, by kernel_rfl⟩⟩
instance : IsFn Try.prog 51 := ⟨⟨_, Try.func51, by kernel_rfl, by kernel_rfl⟩⟩
instance : IsFn Try.prog 52 := ⟨⟨_, Try.func52, by kernel_rfl, by kernel_rfl⟩⟩
instance : IsFn Try.prog 53 := ⟨⟨_, Try.func53, by kernel_rfl, by kernel_rfl⟩⟩
instance : IsFn Try.prog 54 := ⟨⟨_, Try.func54, by kernel_rfl, by kernel_rfl⟩⟩
instance : IsFn Try.prog 55 := ⟨⟨_, Try.func55, by kernel_rfl, by kernel_rfl⟩⟩
instance : IsFn Try.prog 56 := ⟨⟨_, Try.func56, by kernel_rfl, by kernel_rfl⟩⟩
instance : IsFn Try.prog 57 := ⟨⟨_, Try.func57, by kernel_rfl, by kernel_rfl⟩⟩
instance : IsFn Try.prog 58 := ⟨⟨_, Try.func58, by kernel_rfl, by kernel_rfl⟩⟩
instance : IsFn Try.prog 59 := ⟨⟨_, Try.func59, by kernel_rfl, by kernel_rfl⟩⟩
instance : IsFn Try.prog 60 := ⟨⟨_, Try.func60, by kernel_rfl, by kernel_rfl⟩⟩
instance : IsFn Try.prog 61 := ⟨⟨_, Try.func61, by kernel_rfl, by kernel_rfl⟩⟩
instance : IsFn Try.prog 62 := ⟨⟨_, Try.func62, by kernel_rfl, by kernel_rfl⟩⟩
instance : IsFn Try.prog 63 := ⟨⟨_, Try.func63, by kernel_rfl, by kernel_rfl⟩⟩
instance : IsFn Try.prog 64 := ⟨⟨_, Try.func64, by kernel_rfl, by kernel_rfl⟩⟩
instance : IsFn Try.prog 65 := ⟨⟨_, Try.func65, by kernel_rfl, by kernel_rfl⟩⟩
instance : IsFn Try.prog 66 := ⟨⟨_, Try.func66, by kernel_rfl, by kernel_rfl⟩⟩
instance : IsFn Try.prog 67 := ⟨⟨_, Try.func67, by kernel_rfl, by kernel_rfl⟩⟩
instance : IsFn Try.prog 68 := ⟨⟨_, Try.func68, by kernel_rfl, by kernel_rfl⟩⟩
instance : IsFn Try.prog 69 := ⟨⟨_, Try.func69, by kernel_rfl, by kernel_rfl⟩⟩
instance : IsFn Try.prog 70 := ⟨⟨_, Try.func70, by kernel_rfl, by kernel_rfl⟩⟩
instance : IsFn Try.prog 71 := ⟨⟨_, Try.func71, by kernel_rfl, by kernel_rfl⟩⟩
instance : IsFn Try.prog 72 := ⟨⟨_, Try.func72, by kernel_rfl, by kernel_rfl⟩⟩
instance : IsFn Try.prog 73 := ⟨⟨_, Try.func73, by kernel_rfl, by kernel_rfl⟩⟩
instance : IsFn Try.prog 74 := ⟨⟨_, Try.func74, by kernel_rfl, by kernel_rfl⟩⟩
instance : IsFn Try.prog 75 := ⟨⟨_, Try.func75, by kernel_rfl, by kernel_rfl⟩⟩
instance : IsFn Try.prog 76 := ⟨⟨_, Try.func76, by kernel_rfl, by kernel_rfl⟩⟩
instance : IsFn Try.prog 77 := ⟨⟨_, Try.func77, by kernel_rfl, by kernel_rfl⟩⟩
instance : IsFn Try.prog 78 := ⟨⟨_, Try.func78, by kernel_rfl, by kernel_rfl⟩⟩
instance : IsFn Try.prog 79 := ⟨⟨_, Try.func79, by kernel_rfl, by kernel_rfl⟩⟩
instance : IsFn Try.prog 80 := ⟨⟨_, Try.func80, by kernel_rfl, by kernel_rfl⟩⟩
instance : IsFn Try.prog 81 := ⟨⟨_, Try.func81, by kernel_rfl, by kernel_rfl⟩⟩
instance : IsFn Try.prog 82 := ⟨⟨_, Try.func82, by kernel_rfl, by kernel_rfl⟩⟩
instance : IsFn Try.prog 83 := ⟨⟨_, Try.func83, by kernel_rfl, by kernel_rfl⟩⟩
instance : IsFn Try.prog 84 := ⟨⟨_, Try.func84, by kernel_rfl, by kernel_rfl⟩⟩
instance : IsFn Try.prog 85 := ⟨⟨_, Try.func85, by kernel_rfl, by kernel_rfl⟩⟩
instance : IsFn Try.prog 88 := ⟨⟨_, Try.func88, by kernel_rfl, by kernel_rfl⟩⟩
instance : IsFn Try.prog 89 := ⟨⟨_, Try.func89, by kernel_rfl, by kernel_rfl⟩⟩
instance : IsFn Try.prog 90 := ⟨⟨_, Try.func90, by kernel_rfl, by kernel_rfl⟩⟩
instance : IsFn Try.prog 91 := ⟨⟨_, Try.func91, by kernel_rfl, by kernel_rfl⟩⟩
instance : IsFn Try.prog 92 := ⟨⟨_, Try.func92, by kernel_rfl, by kernel_rfl⟩⟩
instance : IsFn Try.prog 93 := ⟨⟨_, Try.func93, by kernel_rfl, by kernel_rfl⟩⟩
instance : IsFn Try.prog 94 := ⟨⟨_, Try.func94, by kernel_rfl, by kernel_rfl⟩⟩
instance : IsFn Try.prog 95 := ⟨⟨_, Try.func95, by kernel_rfl, by kernel_rfl⟩⟩
instance : IsFn Try.prog 96 := ⟨⟨_, Try.func96, by kernel_rfl, by kernel_rfl⟩⟩
instance : IsFn Try.prog 97 := ⟨⟨_, Try.func97, by kernel_rfl, by kernel_rfl⟩⟩
instance : IsFn Try.prog 98 := ⟨⟨_, Try.func98, by kernel_rfl, by kernel_rfl⟩⟩
instance : IsFn Try.prog 99 := ⟨⟨_, Try.func99, by kernel_rfl, by kernel_rfl⟩⟩
instance : IsFn Try.prog 100 := ⟨⟨_, Try.func100, by kernel_rfl, by kernel_rfl⟩⟩
instance : IsFn Try.prog 101 := ⟨⟨_, Try.func101, by kernel_rfl, by kernel_rfl⟩⟩
instance : IsFn Try.prog 102 := ⟨⟨_, Try.func102, by kernel_rfl, by kernel_rfl⟩⟩
instance : IsFn Try.prog 103 := ⟨⟨_, Try.func103, by kernel_rfl, by kernel_rfl⟩⟩
instance : IsFn Try.prog 104 := ⟨⟨_, Try.func104, by kernel_rfl, by kernel_rfl⟩⟩
instance : IsFn Try.prog 105 := ⟨⟨_, Try.func105, by kernel_rfl, by kernel_rfl⟩⟩
instance : IsFn Try.prog 106 := ⟨⟨_, Try.func106, by kernel_rfl, by kernel_rfl⟩⟩
instance : IsFn Try.prog 107 := ⟨⟨_, Try.func107, by kernel_rfl, by kernel_rfl⟩⟩
instance : IsFn Try.prog 108 := ⟨⟨_, Try.func108, by kernel_rfl, by kernel_rfl⟩⟩
instance : IsFn Try.prog 109 := ⟨⟨_, Try.func109, by kernel_rfl, by kernel_rfl⟩⟩
instance : IsFn Try.prog 110 := ⟨⟨_, Try.func110, by kernel_rfl, by kernel_rfl⟩⟩
instance : IsFn Try.prog 111 := ⟨⟨_, Try.func111, by kernel_rfl, by kernel_rfl⟩⟩
instance : IsFn Try.prog 112 := ⟨⟨_, Try.func112, by kernel_rfl, by kernel_rfl⟩⟩
instance : IsFn Try.prog 113 := ⟨⟨_, Try.func113, by kernel_rfl, by kernel_rfl⟩⟩
instance : IsFn Try.prog 114 := ⟨⟨_, Try.func114, by kernel_rfl, by kernel_rfl⟩⟩
instance : IsFn Try.prog 115 := ⟨⟨_, Try.func115, by kernel_rfl, by kernel_rfl⟩⟩
instance : IsFn Try.prog 116 := ⟨⟨_, Try.func116, by kernel_rfl, by kernel_rfl⟩⟩
instance : IsFn Try.prog 117 := ⟨⟨_, Try.func117, by kernel_rfl, by kernel_rfl⟩⟩
instance : IsFn Try.prog 118 := ⟨⟨_, Try.func118, by kernel_rfl, by kernel_rfl⟩⟩
theorem mixed : Try.prog.follows .mixedOrders = true := by kernel_rfl
end Go.Proofs.Ytlpheckjogphmaa

namespace Go.Proofs.Ytlpheckjogphmaa
open Go Go.Eng Go.Proofs
instance : UMap Try.prog 94 89 42 := ⟨Try.underlying94⟩
instance : UMap Try.prog 105 3 33 := ⟨Try.underlying105⟩
instance : UMap Try.prog 107 3 42 := ⟨Try.underlying107⟩
instance : USpot Try.prog 89 := ⟨_, _, Try.underlying89, by decide, by decide, rfl, rfl, Try.underlying3, Try.underlying3, by kernel_rfl⟩
end Go.Proofs.Ytlpheckjogphmaa

namespace Go.Proofs.Ytlpheckjogphmaa
open Go Go.Eng Go.Proofs
instance : UStruct Try.prog 7 [(0, 1), (1, 1), (2, 1), (3, 1)] := ⟨⟨_, Try.underlying7, by kernel_rfl⟩⟩
instance : UStruct Try.prog 8 [(0, 1), (1, 1), (2, 1), (3, 1)] := ⟨⟨_, Try.underlying8, by kernel_rfl⟩⟩
instance : UStruct Try.prog 13 [(0, 1), (1, 1)] := ⟨⟨_, Try.underlying13, by kernel_rfl⟩⟩
instance : UStruct Try.prog 14 [(0, 1), (1, 1)] := ⟨⟨_, Try.underlying14, by kernel_rfl⟩⟩
instance : UStruct Try.prog 18 [(0, 1)] := ⟨⟨_, Try.underlying18, by kernel_rfl⟩⟩
instance : UStruct Try.prog 19 [(0, 1)] := ⟨⟨_, Try.underlying19, by kernel_rfl⟩⟩
instance : UStruct Try.prog 23 [(0, 1), (1, 1), (2, 1)] := ⟨⟨_, Try.underlying23, by kernel_rfl⟩⟩
instance : UStruct Try.prog 24 [(0, 1), (1, 1), (2, 1)] := ⟨⟨_, Try.underlying24, by kernel_rfl⟩⟩
instance : UStruct Try.prog 41 [(0, 1), (1, 1)] := ⟨⟨_, Try.underlying41, by kernel_rfl⟩⟩
instance : UStruct Try.prog 42 [(0, 1), (1, 1)] := ⟨⟨_, Try.underlying42, by kernel_rfl⟩⟩
instance : UStruct Try.prog 43 [(0, 1), (1, 1), (2, 1), (3, 2)] := ⟨⟨_, Try.underlying43, by kernel_rfl⟩⟩
instance : UStruct Try.prog 44 [(0, 1), (1, 1), (2, 1), (3, 2)] := ⟨⟨_, Try.underlying44, by kernel_rfl⟩⟩
instance : UStruct Try.prog 45 [(0, 1), (1, 1), (2, 2)] := ⟨⟨_, Try.underlying45, by kernel_rfl⟩⟩
instance : UStruct Try.prog 46 [(0, 1), (1, 1), (2, 2)] := ⟨⟨_, Try.underlying46, by kernel_rfl⟩⟩
instance : UStruct Try.prog 50 [(0, 1), (1, 1), (2, 1), (3, 1)] := ⟨⟨_, Try.underlying50, by kernel_rfl⟩⟩
instance : UStruct Try.prog 51 [(0, 1), (1, 1), (2, 1), (3, 1)] := ⟨⟨_, Try.underlying51, by kernel_rfl⟩⟩
instance : UStruct Try.prog 88 [(0, 1), (1, 1)] := ⟨⟨_, Try.underlying88, by kernel_rfl⟩⟩
instance : UStruct Try.prog 89 [(0, 1), (1, 1)] := ⟨⟨_, Try.underlying89, by kernel_rfl⟩⟩
instance : UStruct Try.prog 95 [(0, 1), (1, 1), (2, 1)] := ⟨⟨_, Try.underlying95, by kernel_rfl⟩⟩
instance : UStruct Try.prog 96 [(0, 1), (1, 1), (2, 1)] := ⟨⟨_, Try.underlying96, by kernel_rfl⟩⟩
instance : UStruct Try.prog 159 [(0, 1), (1, 1), (2, 1), (3, 1)] := ⟨⟨_, Try.underlying159, by kernel_rfl⟩⟩
instance : UStruct Try.prog 160 [(0, 1), (1, 1), (2, 1), (3, 1)] := ⟨⟨_, Try.underlying160, by kernel_rfl⟩⟩
instance : UStruct Try.prog 162 [(0, 0)] := ⟨⟨_, Try.underlying162, by kernel_rfl⟩⟩
instance : UStruct Try.prog 163 [(0, 0)] := ⟨⟨_, Try.underlying163, by kernel_rfl⟩⟩
instance : UStruct Try.prog 170 [(0, 1), (1, 1), (2, 1), (3, 1), (4, 1), (5, 1), (6, 1), (7, 1), (8, 1), (9, 1), (10, 1)] := ⟨⟨_, Try.underlying170, by kernel_rfl⟩⟩
instance : UStruct Try.prog 171 [(0, 1), (1, 1), (2, 1), (3, 1), (4, 1), (5, 1), (6, 1), (7, 1), (8, 1), (9, 1), (10, 1)] := ⟨⟨_, Try.underlying171, by kernel_rfl⟩⟩
end Go.Proofs.Ytlpheckjogphmaa
