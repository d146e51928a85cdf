/- The engine: frames. What a walk knows of the world lies in one fact: the blocks that it knows whole, and facts on data, which stand whatever is stored into those blocks. Layer 9: facts on matrices and integers that frames carry. The engine: frames, more: blocks of structs made, and written at any place. The engine: range over a function: code walked in a round's frame, calls of yield, the statement itself, returns behind it. Layer 9: lists of integers in least form: each. Plain laws of naturals as lists of words to the base 65536, the lowest first. No program in sight. Plain arithmetic: trailing zeros, single digits. Words and digits to the base 65536. The document's answers for layer 1: Split, trim, Join, at, Least, order, Cmp. The document's answers for layer 1: at, Least, order, Cmp, Add. The document's answers for layer 5: made, Least, Sign, CmpAbs, Cmp of equal integers. Layer 9: contracts of mat: Turn, Trace; the law's equal. Layer 9: Least, Lines and its iterator. -/
import Derived.Test.YthlbihbchobllaaGreatPh4
import Derived.RangeFuncLeaves
import Derived.RangeFuncSeq
import Derived.RangeFuncOwn
import Derived.TacticsIn
import Derived.Test.YthlbihbchobllaaGreatPh3
import Derived.Test.YthlbihbchobllaaGreatPh1
set_option linter.unusedVariables false
set_option linter.unusedSimpArgs false
namespace Go.Eng
open Go Go.RowKit

/-- no flag -/
def flagless : Value → Bool
  | .bool _ => false
  | _ => true
/-- a map's block, or that of a walk over a map -/
def mapO : Obj → Bool
  | .map .. => true
  | .mapIter .. => true
  | _ => false
/-- data stand: a block of F, or with a word among its cells, is as it was -/
structure DE (F : Nat → Prop) (H H' : Array Obj) : Prop where
  size : H.size ≤ H'.size
  block : ∀ (k : Nat) (cs : Array Value) (t : TypeId) (x : Nat × Nat), H[k]? = some (.cells cs t x) → F k ∨ cs.toList.all noU64 = false → H'[k]? = H[k]?
  maps : ∀ (k : Nat) (o : Obj), H[k]? = some o → mapO o = true → F k → H'[k]? = H[k]?
theorem DE.ext {F : Nat → Prop} {w w' : World} (h : Ext w w') : DE F w.heap w'.heap := ⟨h.size, fun k cs t x hk _ => h.block k (Array.getElem?_eq_some_iff.1 hk).1, fun k o hk _ _ => h.block k (Array.getElem?_eq_some_iff.1 hk).1⟩
theorem DE.mono {F F' : Nat → Prop} {H H' : Array Obj} (h : DE F H H') (hF : ∀ k, F' k → F k) : DE F' H H' := ⟨h.size, fun k cs t x hk hc => h.block k cs t x hk (hc.imp (hF k) id), fun k o hk ho hf => h.maps k o hk ho (hF k hf)⟩
theorem DE.upd {F : Nat → Prop} {w w' : World} {b : Nat} {t : TypeId} {cs : List Value} (hu : Upd b w w') (hV : Vr w.heap b t cs) (hc : cs.all noU64 = true) (hF : ¬ F b) : DE F w.heap w'.heap :=
  ⟨Nat.le_of_eq hu.size.symm, (fun k cs' t' x hk hd => by
    refine hu.block k fun e => ?_
    subst e
    unfold Vr at hV
    rw [hV] at hk
    cases hk
    simp only [List.toList_toArray] at hd
    rw [hc] at hd
    rcases hd with hd | hd
    · exact hF hd
    · cases hd), fun k o hk _ hf => hu.block k fun e => hF (e ▸ hf)⟩
theorem hcell_eq {H H' : Array Obj} {b i : Nat} {v : Value} (h : H'[b]? = H[b]?) (hv : hcell H b i = some v) : hcell H' b i = some v := by
  unfold hcell at hv ⊢
  rw [h]; exact hv
theorem hcell_obj {H : Array Obj} {b i : Nat} {v : Value} (hv : hcell H b i = some v) : ∃ (cs : Array Value) (t : TypeId) (x : Nat × Nat), H[b]? = some (.cells cs t x) ∧ v ∈ cs.toList := by
  unfold hcell at hv
  split at hv
  · rename_i cs t x hb
    exact ⟨cs, t, x, hb, by rw [Array.mem_toList_iff]; exact Array.mem_of_getElem? hv⟩
  · cases hv
theorem all_false {f : Value → Bool} {l : List Value} {v : Value} (h : v ∈ l) (hf : f v = false) : l.all f = false := by
  cases hq : l.all f with
  | false => rfl
  | true => rw [List.all_eq_true.1 hq v h] at hf; cases hf
/-- the blocks of a slice -/
def fpA (A : Option Addr) (n : Nat) (k : Nat) : Prop := 0 < n ∧ ∃ o, A = some ⟨k, o, none⟩
theorem Sl.de {F : Nat → Prop} {H H' : Array Obj} {B n c : Nat} {A : Option Addr} {l : List Nat} (hd : DE F H H') (h : Sl u64v H B A n c l) : Sl u64v H' B A n c l := by
  refine ⟨h.len, h.cap, ?_⟩
  rcases h.mem with h0 | ⟨b, o, e, hlt, hm⟩
  · exact .inl h0
  · rcases Nat.eq_zero_or_pos n with h0 | h0
    · exact .inl h0
    · have hl : 0 < l.length := by have := h.len; omega
      have h1 := hm 0 l[0] (List.getElem?_eq_getElem hl)
      obtain ⟨cs, t, x, hb, hv⟩ := hcell_obj h1
      have hq := hd.block b cs t x hb (.inr (all_false hv rfl))
      exact .inr ⟨b, o, e, hlt, fun j x hx => hcell_eq hq (hm j x hx)⟩
theorem Sm.de {α : Type} {k : Nat} {f : α → List Value} {F : Nat → Prop} {H H' : Array Obj} {B n c : Nat} {A : Option Addr} {l : List α} (hF : ∀ b, fpA A n b → F b) (hd : DE F H H') (h : Sm k f H B A n c l) : Sm k f H' B A n c l := by
  refine ⟨h.len, h.cap, h.pos, h.wid, ?_⟩
  rcases h.in_heap with h0 | ⟨b, o, e, hlt, hh, hm⟩
  · exact .inl h0
  · rcases Nat.eq_zero_or_pos n with h0 | h0
    · exact .inl h0
    · have hl : 0 < l.length := by have := h.len; omega
      have hw := h.wid l[0] (List.getElem_mem hl)
      have hp := h.pos
      have h1 := hm 0 l[0] (List.getElem?_eq_getElem hl) 0 (f l[0])[0] (List.getElem?_eq_getElem (by omega))
      obtain ⟨cs, t, x, hb, hv⟩ := hcell_obj h1
      have hq := hd.block b cs t x hb (.inl (hF b ⟨h0, o, e⟩))
      exact .inr ⟨b, o, e, hlt, fun j x hx q v hv => hcell_eq hq (hm j x hx q v hv)⟩
theorem Sm.fp_lt {α : Type} {k : Nat} {f : α → List Value} {H : Array Obj} {n c : Nat} {A : Option Addr} {l : List α} (h : Sm k f H H.size A n c l) {b : Nat} (hb : fpA A n b) : b < H.size := by
  obtain ⟨h0, o, e⟩ := hb
  rcases h.mem with h1 | ⟨b', o', e', hlt, _⟩
  · omega
  · rw [e] at e'; cases e'; exact hlt
theorem Sm.fp_flag {H : Array Obj} {B n c b : Nat} {A : Option Addr} {l : List IV} {t : TypeId} {cs : List Value} (h : Sm 2 ivc H B A n c l) (hb : fpA A n b) (hV : Vr H b t cs) (hc : cs.all flagless = true) : False := by
  obtain ⟨h0, o, e⟩ := hb
  rcases h.mem with h1 | ⟨b', o', e', hlt, hm⟩
  · omega
  · rw [e] at e'; cases e'
    have hl : 0 < l.length := by have := h.len; omega
    have h1 := hm 0 l[0] (List.getElem?_eq_getElem hl) 0 (.bool l[0].neg) rfl
    rw [hV.cell] at h1
    have h2 := List.all_eq_true.1 hc _ (List.mem_of_getElem? h1)
    cases h2

/-- what stood stands, but for the blocks of S -/
structure Exs (S : Nat → Prop) (w w' : World) : Prop where
  os : w'.os = w.os
  tape : w'.tape = w.tape
  output : w'.output = w.output
  size : w.heap.size ≤ w'.heap.size
  block : ∀ k, k < w.heap.size → ¬ S k → w'.heap[k]? = w.heap[k]?
theorem Exs.refl (S : Nat → Prop) (w : World) : Exs S w w := ⟨rfl, rfl, rfl, Nat.le_refl _, fun _ _ _ => rfl⟩
theorem Exs.of {S : Nat → Prop} {w w' : World} (h : Ext w w') : Exs S w w' := ⟨h.os, h.tape, h.output, h.size, fun k hk _ => h.block k hk⟩
theorem Exs.trans {S : Nat → Prop} {a b c : World} (h : Exs S a b) (k : Exs S b c) : Exs S a c :=
  ⟨k.os.trans h.os, k.tape.trans h.tape, k.output.trans h.output, Nat.le_trans h.size k.size, fun i hi hs => (k.block i (Nat.lt_of_lt_of_le hi h.size) hs).trans (h.block i hi hs)⟩
theorem Exs.mono {S S' : Nat → Prop} {a b : World} (h : Exs S a b) (hs : ∀ k, k < a.heap.size → S k → S' k) : Exs S' a b := ⟨h.os, h.tape, h.output, h.size, fun k hk hn => h.block k hk fun e => hn (hs k hk e)⟩
theorem Exs.ext {S : Nat → Prop} {a b : World} (h : Exs S a b) (hs : ∀ k, k < a.heap.size → ¬ S k) : Ext a b := ⟨h.os, h.tape, h.output, h.size, fun k hk => h.block k hk (hs k hk)⟩
theorem Exs.ext0 {a b : World} (h : Exs (fun _ => False) a b) : Ext a b := h.ext fun _ _ h => h
/-- .. seen from w0, of which the blocks of S may be written, and all that came later -/
theorem Exs.then {S S' : Nat → Prop} {w0 a b : World} (h : Exs S w0 a) (k : Exs S' a b) (hs : ∀ i, i < w0.heap.size → S' i → S i) : Exs S w0 b :=
  ⟨k.os.trans h.os, k.tape.trans h.tape, k.output.trans h.output, Nat.le_trans h.size k.size, fun i hi hn => (k.block i (Nat.lt_of_lt_of_le hi h.size) fun e => hn (hs i hi e)).trans (h.block i hi hn)⟩
theorem Upd.exs {g : Nat} {w w' : World} (h : Upd g w w') : Exs (fun k => k = g) w w' := ⟨h.os, h.tape, h.output, Nat.le_of_eq h.size.symm, fun k _ hn => h.block k hn⟩
/-- a fact on data, and the blocks, beside those of words, that it looks at -/
structure DP where
  p : Array Obj → Prop
  fp : Nat → Prop
  lt : ∀ H k, p H → fp k → k < H.size
  st : ∀ H H', DE fp H H' → p H → p H'
/-- a block known whole -/
structure VB where
  b : Nat
  t : TypeId
  cs : List Value
/-- S: older blocks that may be written -/
structure Fr (w0 w : World) (L : List VB) (D : List DP) (S : Nat → Prop := fun _ => False) : Prop where
  exs : Exs S w0 w
  vars : ∀ v ∈ L, (w0.heap.size ≤ v.b ∨ S v.b) ∧ Vr w.heap v.b v.t v.cs
  dist : L.Pairwise (fun x y => x.b ≠ y.b)
  data : ∀ d ∈ D, d.p w.heap
  apart : ∀ v ∈ L, ∀ d ∈ D, ¬ d.fp v.b
inductive InV : List VB → Nat → TypeId → List Value → Prop
  | head {L : List VB} {b : Nat} {t : TypeId} {cs : List Value} : InV (⟨b, t, cs⟩ :: L) b t cs
  | tail {x : VB} {L : List VB} {b : Nat} {t : TypeId} {cs : List Value} : InV L b t cs → InV (x :: L) b t cs
theorem InV.mem {L : List VB} {b : Nat} {t : TypeId} {cs : List Value} (h : InV L b t cs) : ⟨b, t, cs⟩ ∈ L := by
  induction h with
  | head => exact List.mem_cons_self ..
  | tail _ ih => exact List.mem_cons_of_mem _ ih
inductive SetV : List VB → Nat → TypeId → List Value → List Value → List VB → Prop
  | head {L : List VB} {b : Nat} {t : TypeId} {cs r : List Value} : SetV (⟨b, t, cs⟩ :: L) b t cs r (⟨b, t, r⟩ :: L)
  | tail {x : VB} {L L' : List VB} {b : Nat} {t : TypeId} {cs r : List Value} : SetV L b t cs r L' → SetV (x :: L) b t cs r (x :: L')
theorem SetV.inV {L L' : List VB} {b : Nat} {t : TypeId} {cs r : List Value} (h : SetV L b t cs r L') : InV L b t cs := by
  induction h with
  | head => exact .head
  | tail _ ih => exact .tail ih
theorem SetV.split {L L' : List VB} {b : Nat} {t : TypeId} {cs r : List Value} (h : SetV L b t cs r L') : ∃ pre post, L = pre ++ ⟨b, t, cs⟩ :: post ∧ L' = pre ++ ⟨b, t, r⟩ :: post := by
  induction h with
  | head => exact ⟨[], _, rfl, rfl⟩
  | @tail x L L' _ _ _ _ _ ih =>
    obtain ⟨pre, post, h1, h2⟩ := ih
    exact ⟨x :: pre, post, by rw [h1]; rfl, by rw [h2]; rfl⟩
theorem memH {d : DP} {D : List DP} : d ∈ d :: D := List.mem_cons_self ..
theorem memT {d x : DP} {D : List DP} (h : d ∈ D) : d ∈ x :: D := List.mem_cons_of_mem _ h
section
variable {S : Nat → Prop} {w0 w w' : World} {L L' : List VB} {D D' : List DP} {b : Nat} {t : TypeId} {cs r : List Value}
theorem Fr.refl (w : World) : Fr w w [] [] := ⟨Exs.refl _ _, fun _ h => (by cases h), List.Pairwise.nil, fun _ h => (by cases h), fun _ h => (by cases h)⟩
theorem Fr.ext (h : Fr w0 w L D) : Ext w0 w := h.exs.ext0
theorem Fr.add (h : Fr w0 w L D S) (d : DP) (hd : d.p w.heap) (ha : ∀ v ∈ L, ¬ d.fp v.b) : Fr w0 w L (d :: D) S := ⟨h.exs, h.vars, h.dist, fun x hx => by
  rcases List.mem_cons.1 hx with rfl | hx
  · exact hd
  · exact h.data x hx, fun v hv x hx => by
  rcases List.mem_cons.1 hx with rfl | hx
  · exact ha v hv
  · exact h.apart v hv x hx⟩
theorem Fr.exts (h : Fr w0 w L D S) (hE : Ext w w') : Fr w0 w' L D S :=
  ⟨h.exs.trans (.of hE), fun v hv => ⟨(h.vars v hv).1, (h.vars v hv).2.ext hE⟩, h.dist, fun d hd => d.st _ _ (DE.ext hE) (h.data d hd), h.apart⟩
/-- data in blocks that are not older than w -/
theorem Fr.addNew (h : Fr w0 w L D S) (hE : Ext w w') (d : DP) (hd : d.p w'.heap) (hn : ∀ k, d.fp k → w.heap.size ≤ k) : Fr w0 w' L (d :: D) S :=
  (h.exts hE).add d hd fun v hv hk => by have h1 := (h.vars v hv).2.lt; have h2 := hn _ hk; omega
theorem Fr.var (h : Fr w0 w L D S) (hv : InV L b t cs) : Vr w.heap b t cs := (h.vars _ hv.mem).2
theorem Fr.lo (h : Fr w0 w L D S) (hv : InV L b t cs) : w0.heap.size ≤ b ∨ S b := (h.vars _ hv.mem).1
theorem Fr.new (h : Fr w0 w L D S) (hb : b = w.heap.size) (hV : Vr w'.heap b t cs) (hE : Ext w w') : Fr w0 w' (⟨b, t, cs⟩ :: L) D S := by
  have h1 := h.exts hE
  refine ⟨h1.exs, fun v hv => ?_, List.pairwise_cons.2 ⟨fun v hv e => ?_, h.dist⟩, h1.data, fun v hv d hd => ?_⟩
  · rcases List.mem_cons.1 hv with rfl | hv
    · exact ⟨.inl (by rw [hb]; exact h.exs.size), hV⟩
    · exact h1.vars v hv
  · have := (h.vars v hv).2.lt
    simp only at e
    omega
  · rcases List.mem_cons.1 hv with rfl | hv
    · intro hk
      have := d.lt _ _ (h.data d hd) hk
      simp only at this
      omega
    · exact h.apart v hv d hd
theorem Fr.store (h : Fr w0 w L D S) (hS : SetV L b t cs r L') (hc : cs.all noU64 = true) (hu : Upd b w w') (hV : Vr w'.heap b t r) : Fr w0 w' L' D S := by
  have hb := h.lo hS.inV
  have hap := fun d hd => h.apart _ hS.inV.mem d hd
  refine ⟨h.exs.then hu.exs (fun i hi e => by subst e; rcases hb with hb | hb; omega; exact hb), ?_, ?_, fun d hd => d.st _ _ (DE.upd hu (h.var hS.inV) hc (hap d hd)) (h.data d hd), ?_⟩
  · intro v hv
    obtain ⟨pre, post, e1, e2⟩ := hS.split
    subst e1 e2
    have hdist := h.dist
    rw [List.pairwise_append] at hdist
    have hq : ∀ v, v ∈ pre ∨ v ∈ post → (w0.heap.size ≤ v.b ∨ S v.b) ∧ Vr w'.heap v.b v.t v.cs := by
      intro v hv
      have hm : v ∈ pre ++ (⟨b, t, cs⟩ : VB) :: post := by
        rcases hv with hv | hv
        · exact List.mem_append_left _ hv
        · exact List.mem_append_right _ (List.mem_cons_of_mem _ hv)
      have hne : v.b ≠ b := by
        rcases hv with hv | hv
        · exact hdist.2.2 v hv _ (List.mem_cons_self ..)
        · exact fun e => (List.pairwise_cons.1 hdist.2.1).1 v hv e.symm
      exact ⟨(h.vars v hm).1, (h.vars v hm).2.upd hu hne⟩
    rcases List.mem_append.1 hv with hv | hv
    · exact hq v (.inl hv)
    · rcases List.mem_cons.1 hv with rfl | hv
      · exact ⟨hb, hV⟩
      · exact hq v (.inr hv)
  · obtain ⟨pre, post, e1, e2⟩ := hS.split
    subst e1 e2
    have hdist := h.dist
    rw [List.pairwise_append, List.pairwise_cons] at hdist ⊢
    refine ⟨hdist.1, ⟨fun v hv => hdist.2.1.1 v hv, hdist.2.1.2⟩, fun x hx y hy => ?_⟩
    rcases List.mem_cons.1 hy with rfl | hy
    · exact hdist.2.2 x hx ⟨b, t, cs⟩ (List.mem_cons_self ..)
    · exact hdist.2.2 x hx y (List.mem_cons_of_mem _ hy)
  · intro v hv d hd
    obtain ⟨pre, post, e1, e2⟩ := hS.split
    subst e1 e2
    rcases List.mem_append.1 hv with hv | hv
    · exact h.apart v (List.mem_append_left _ hv) d hd
    · rcases List.mem_cons.1 hv with rfl | hv
      · exact hap d hd
      · exact h.apart v (List.mem_append_right _ (List.mem_cons_of_mem _ hv)) d hd
theorem Fr.weak (h : Fr w0 w L' D' S) (hL : L.Sublist L') (hD : ∀ d ∈ D, d ∈ D') : Fr w0 w L D S := ⟨h.exs, fun v hv => h.vars v (hL.subset hv), h.dist.sublist hL, fun d hd => h.data d (hD d hd), fun v hv d hd => h.apart v (hL.subset hv) d (hD d hd)⟩
theorem allH {x : DP} {D D' : List DP} (hx : x ∈ D') (h : ∀ d ∈ D, d ∈ D') : ∀ d ∈ x :: D, d ∈ D' := fun d hd => by
  rcases List.mem_cons.1 hd with rfl | hd
  · exact hx
  · exact h d hd
theorem allN {D' : List DP} : ∀ d ∈ ([] : List DP), d ∈ D' := fun _ h => (by cases h)
theorem allR {D : List DP} : ∀ d ∈ D, d ∈ D := fun _ h => h
theorem allT {x : DP} {D D' : List DP} (h : ∀ d ∈ D, d ∈ D') : ∀ d ∈ D, d ∈ x :: D' := fun d hd => List.mem_cons_of_mem _ (h d hd)
theorem Fr.get (h : Fr w0 w L D S) {d : DP} (hd : d ∈ D) : d.p w.heap := h.data d hd
end

/-! ### Steps -/
section
variable {P : Program} {N : Fm} {Q : Exit → Act → World → Prop} {σ : Store} {S : Nat → Prop} {w0 w : World} {L : List VB} {D : List DP} {ops : Array Oper} {d : Nat} {t : TypeId} {pos : String} {af : Array Edge} {rest : List Oper} {l : List Oper}
theorem T.regionFr (hF : Fr w0 w L D S) (id : Nat) (f : Nat) (t : Rt) (hm : P.follows .mixedOrders = true) (hB : treeB l.toArray f t = true)
    (h : ∀ w1 : World, Fr w0 w1 L D S → TF P N l Q (fun w' => Fr w0 w' L D S) f t σ w1) : T P N (.region id l.toArray true) Q σ w :=
  T.regionF _ f t hm hB (hF.exts (ext_drewN w 1)) (h _ (hF.exts (ext_drewN w 1)))
theorem TL.nilFr (hF : Fr w0 w L D S) (h : ∀ w1 : World, Fr w0 w1 L D S → G N .normal Q σ w1) : TL P N .quiet ops Q [] σ w := TL.nilQ fun n => h _ (hF.exts (ext_drewN w n))
theorem TL.boxFr (hF : Fr w0 w L D S) {x : Operand} {ty : TypeId} {v : Value} (hx : look σ x = some v) (hd : Nat.blt d N.n = true)
    (K : ∀ w' b, Fr w0 w' (⟨b, ty, v.cells.toList⟩ :: L) D S → TL P N .seq ops Q rest ((d, .pointer (some ⟨b, 0, none⟩)) :: σ) w') :
    TL P N .seq ops Q (⟨some d, .box ty x, t, pos, af, none⟩ :: rest) σ w :=
  TL.box hx hd fun w' b hb hV hE _ => K w' b (hF.new hb hV hE)
theorem TL.boxAFr (hF : Fr w0 w L D S) {x : Operand} {ty : TypeId} {cs : List Value} (hx : look σ x = some (.agg cs.toArray)) (hd : Nat.blt d N.n = true)
    (K : ∀ w' b, Fr w0 w' (⟨b, ty, cs⟩ :: L) D S → TL P N .seq ops Q rest ((d, .pointer (some ⟨b, 0, none⟩)) :: σ) w') :
    TL P N .seq ops Q (⟨some d, .box ty x, t, pos, af, none⟩ :: rest) σ w :=
  TL.boxA hx hd fun w' b hb hV hE _ => K w' b (hF.new hb hV hE)
theorem TL.allocFr (hF : Fr w0 w L D S) {ty : TypeId} {z : Value} {sz b1 : Nat} [hS : USize P ty z sz b1] {cs : List Value} (hz : z.cells.toList = cs) (hd : Nat.blt d N.n = true)
    (K : ∀ w' b, Fr w0 w' (⟨b, ty, cs⟩ :: L) D S → TL P N .seq ops Q rest ((d, .pointer (some ⟨b, 0, none⟩)) :: σ) w') :
    TL P N .seq ops Q (⟨some d, .alloc ty, t, pos, af, none⟩ :: rest) σ w :=
  TL.alloc hd fun w' b hb hV hE _ => K w' b (hF.new hb (by rw [← hz]; exact hV) hE)
theorem TL.storeAFr (hF : Fr w0 w L D S) {x y : Operand} {ty e : TypeId} {z : Value} {sz b1 : Nat} [hS : USize P ty z sz b1] {b o : Nat} {cs r vs : List Value} {L' : List VB} (hx : look σ x = some (.pointer (some ⟨b, o, none⟩))) (hy : look σ y = some (.agg vs.toArray))
    (hsz : Nat.beq vs.length sz = true) (h1 : vs.all (·.oneCell') = true) (h : SetV L b e cs r L' ∧ putO cs o vs = some r) (hc : cs.all noU64 = true)
    (K : ∀ w', Fr w0 w' L' D S → TL P N .seq ops Q rest σ w') : TL P N .seq ops Q (⟨none, .store ty x y, t, pos, af, none⟩ :: rest) σ w :=
  TL.storeVA hx hy hsz h1 (hF.var h.1.inV) h.2 fun w' h1 h2 => K w' (hF.store h.1 hc h2 h1)
theorem TL.storeFr (hF : Fr w0 w L D S) {x y : Operand} {ty e : TypeId} {z : Value} {b1 : Nat} [hS : USize P ty z 1 b1] {b o : Nat} {cs r : List Value} {v : Value} {L' : List VB} (hx : look σ x = some (.pointer (some ⟨b, o, none⟩))) (hy : look σ y = some v) (hvs : v.cells.toList = [v]) (h1 : v.oneCell' = true) (h : SetV L b e cs r L' ∧ putO cs o [v] = some r) (hc : cs.all noU64 = true)
    (K : ∀ w', Fr w0 w' L' D S → TL P N .seq ops Q rest σ w') : TL P N .seq ops Q (⟨none, .store ty x y, t, pos, af, none⟩ :: rest) σ w :=
  TL.storeV hx hy hvs h1 (hF.var h.1.inV) h.2 fun w' h1 h2 => K w' (hF.store h.1 hc h2 h1)
end
section
variable {P : Program} {σ : Store} {d : Option Tmp} {t : TypeId} {pos : String} {af : Array Edge} {gd : Option (Nat × Bool)} {S : Nat → Prop} {w0 w : World} {L : List VB} {D : List DP}
theorem ev_loadFr (hF : Fr w0 w L D S) {x : Operand} {ty e : TypeId} [hO : UOne P ty] {b o : Nat} {cs : List Value} {v : Value} (hx : look σ x = some (.pointer (some ⟨b, o, none⟩))) (h : InV L b e cs ∧ nthV cs o = some v) : Ev P σ w.heap ⟨d, .load ty x, t, pos, af, gd⟩ v := ev_loadV hx (hF.var h.1) h.2
theorem ev_loadAFr (hF : Fr w0 w L D S) {x : Operand} {ty e : TypeId} [hA : UAgg P ty] {z : Value} {sz b1 : Nat} [hS : USize P ty z sz b1] {b o : Nat} {cs cs' : List Value} (hx : look σ x = some (.pointer (some ⟨b, o, none⟩))) (h : InV L b e cs ∧ subV cs o sz = some cs') :
    Ev P σ w.heap ⟨d, .load ty x, t, pos, af, gd⟩ (.agg cs'.toArray) := ev_loadVA hx (hF.var h.1) h.2
end
/-! ### Kinds of operations and judgements, for quick choices -/
section
variable {P : Program} {N : Fm} {q : Md} {Q : Exit → Act → World → Prop} {S : World → Prop} {σ : Store} {H : Array Obj} {w : World} {ops : Array Oper} {d : Option Tmp} {t : TypeId} {pos : String} {af : Array Edge} {gd : Option (Nat × Bool)} {rest l : List Oper} {v : Value} {f : Nat}
theorem Ev.isBin {op : BinOp} {tx ty : TypeId} {x y : Operand} (h : Ev P σ H ⟨d, .binOp op tx x y ty, t, pos, af, gd⟩ v) : Ev P σ H ⟨d, .binOp op tx x y ty, t, pos, af, gd⟩ v := h
theorem Ev.isLoad {ty : TypeId} {x : Operand} (h : Ev P σ H ⟨d, .load ty x, t, pos, af, gd⟩ v) : Ev P σ H ⟨d, .load ty x, t, pos, af, gd⟩ v := h
theorem Ev.isSlice {ty : TypeId} {x : Operand} {a b c : Option Operand} (h : Ev P σ H ⟨d, .slice ty x a b c, t, pos, af, gd⟩ v) : Ev P σ H ⟨d, .slice ty x a b c, t, pos, af, gd⟩ v := h
theorem TL.isG {op : Op} {g : Nat × Bool} (h : TL P N q ops Q (⟨d, op, t, pos, af, some g⟩ :: rest) σ w) : TL P N q ops Q (⟨d, op, t, pos, af, some g⟩ :: rest) σ w := h
theorem TL.isCall {f : FuncId} {xs : Array Operand} {tys : Array TypeId} (h : TL P N q ops Q (⟨d, .call { callee := .value (.func f), args := xs, argTypes := tys }, t, pos, af, none⟩ :: rest) σ w) : TL P N q ops Q (⟨d, .call { callee := .value (.func f), args := xs, argTypes := tys }, t, pos, af, none⟩ :: rest) σ w := h
theorem TL.isOp {o : Oper} (h : TL P N q ops Q (o :: rest) σ w) : TL P N q ops Q (o :: rest) σ w := h
theorem TL.isBin {op : BinOp} {tx ty : TypeId} {x y : Operand} (h : TL P N q ops Q (⟨d, .binOp op tx x y ty, t, pos, af, gd⟩ :: rest) σ w) : TL P N q ops Q (⟨d, .binOp op tx x y ty, t, pos, af, gd⟩ :: rest) σ w := h
theorem T.is {c : Code} (h : T P N c Q σ w) : T P N c Q σ w := h
theorem G.is {e : Exit} (h : G N e Q σ w) : G N e Q σ w := h
/-- a step of a drawn region by a tree, its operation at hand -/
def TFo (P : Program) (N : Fm) (l : List Oper) (Q : Exit → Act → World → Prop) (S : World → Prop) (f : Nat) (t : Rt) (o : Oper) (σ : Store) (w : World) : Prop :=
  ∀ a, Rep N σ a → ∃ v, YieldsIf P l.toArray S o v a ∧ wpTree P l.toArray (Only Q) S f t (a.put o.dst v) w
theorem TF.pick {i : Nat} {tr : Rt} {o : Oper} (hi : pick1 l i = some o) (h : TFo P N l Q S f tr o σ w) : TF P N l Q S f (.s i tr) σ w := by
  unfold TF
  intro a ha
  obtain ⟨v, h1, h2⟩ := h a ha
  exact ⟨o, v, pick_at hi, h1, h2⟩
theorem TFo.ev {tr : Rt} {op : Op} {ty : TypeId} {d : Nat} (h : ∀ w', S w' → Ev P σ w'.heap ⟨some d, op, ty, pos, af, none⟩ v) (hd : Nat.blt d N.n = true) (k : TF P N l Q S f tr ((d, v) :: σ) w) : TFo P N l Q S f tr ⟨some d, op, ty, pos, af, none⟩ σ w := by
  unfold TF at k
  exact fun a ha => ⟨v, .inl ⟨by simp [Region.wanted], fun w' hw' => by have := h w' hw'; unfold Ev at this; exact this _ w' ha.agree rfl⟩, k _ (ha.put hd v)⟩
theorem TFo.evg {tr : Rt} {op : Op} {ty : TypeId} {d : Nat} {j s : Nat} {want b : Bool} (hj : (pick1 l j).bind (·.dst) = some s) (hb : look1 σ s = some (.bool b)) (heq : (b == want) = true)
    (h : ∀ w', S w' → Ev P σ w'.heap ⟨some d, op, ty, pos, af, some (j, want)⟩ v) (hd : Nat.blt d N.n = true) (k : TF P N l Q S f tr ((d, v) :: σ) w) : TFo P N l Q S f tr ⟨some d, op, ty, pos, af, some (j, want)⟩ σ w := by
  unfold TF at k
  refine fun a ha => ⟨v, .inl ⟨?_, fun w' hw' => by have := h w' hw'; unfold Ev at this; exact this _ w' ha.agree rfl⟩, k _ (ha.put hd v)⟩
  have hj' : (l.toArray[j]?).bind (·.dst) = some s := by rw [List.getElem?_toArray, ← pick1_eq]; exact hj
  simp only [Region.wanted, yielded_of ha hj' hb]
  cases b <;> cases want <;> simp_all
theorem TFo.skip {tr : Rt} {op : Op} {ty : TypeId} {d : Nat} {j s : Nat} {want b : Bool} (hj : (pick1 l j).bind (·.dst) = some s) (hb : look1 σ s = some (.bool b)) (heq : (b == want) = false)
    (hd : Nat.blt d N.n = true) (k : TF P N l Q S f tr ((d, undef) :: σ) w) : TFo P N l Q S f tr ⟨some d, op, ty, pos, af, some (j, want)⟩ σ w := by
  unfold TF at k
  refine fun a ha => ⟨undef, .inr ⟨?_, rfl⟩, k _ (ha.put hd undef)⟩
  have hj' : (l.toArray[j]?).bind (·.dst) = some s := by rw [List.getElem?_toArray, ← pick1_eq]; exact hj
  simp only [Region.wanted, yielded_of ha hj' hb]
  cases b <;> cases want <;> simp_all
theorem TFo.is {tr : Rt} {o : Oper} (h : TFo P N l Q S f tr o σ w) : TFo P N l Q S f tr o σ w := h
theorem TF.is {tr : Rt} (h : TF P N l Q S f tr σ w) : TF P N l Q S f tr σ w := h
theorem ev_cmpG {op : BinOp} {tx ty : TypeId} {x y : Operand} {k : IntKind} {m n : Int} {p : Prop} [Decidable p] (hx : look σ x = some (.int k m)) (hy : look σ y = some (.int k n)) (hp : cmpP op m n = some p) : Ev P σ H ⟨d, .binOp op tx x y ty, t, pos, af, gd⟩ (.bool (decide p)) := by
  unfold cmpP at hp
  split at hp <;> first | cases hp; done | skip
  all_goals (cases hp)
  · exact ev_lss hx hy (by congr)
  · exact ev_leq hx hy (by congr)
  · exact ev_gtr hx hy (by congr)
  · exact ev_geq hx hy (by congr)
  · exact ev_eql hx hy (by congr)
  · exact ev_neq hx hy (by by_cases h : m = n <;> simp [h])
/-- a comparison in a drawn region: both ways -/
theorem TFo.cmpG {tr : Rt} {op : BinOp} {tx ty ty' : TypeId} {x y : Operand} {k : IntKind} {m n : Int} {p : Prop} {d : Nat} (hx : look σ x = some (.int k m)) (hy : look σ y = some (.int k n)) (hp : cmpP op m n = some p) (hd : Nat.blt d N.n = true)
    (k1 : p → TF P N l Q S f tr ((d, .bool true) :: σ) w) (k0 : ¬ p → TF P N l Q S f tr ((d, .bool false) :: σ) w) : TFo P N l Q S f tr ⟨some d, .binOp op tx x y ty, ty', pos, af, none⟩ σ w := by
  have hdec := Classical.propDecidable p
  have he := fun H => ev_cmpG (P := P) (H := H) (d := some d) (t := ty') (pos := pos) (af := af) (gd := none) (tx := tx) (ty := ty) hx hy hp
  by_cases h : p
  · exact TFo.ev (fun w' _ => by have := he w'.heap; rw [decide_eq_true h] at this; exact this) hd (k1 h)
  · exact TFo.ev (fun w' _ => by have := he w'.heap; rw [decide_eq_false h] at this; exact this) hd (k0 h)
theorem TFo.cmpGg {tr : Rt} {op : BinOp} {tx ty ty' : TypeId} {x y : Operand} {k : IntKind} {m n : Int} {p : Prop} {d : Nat} {j s : Nat} {want b : Bool} (hj : (pick1 l j).bind (·.dst) = some s) (hb : look1 σ s = some (.bool b)) (heq : (b == want) = true) (hx : look σ x = some (.int k m)) (hy : look σ y = some (.int k n)) (hp : cmpP op m n = some p) (hd : Nat.blt d N.n = true)
    (k1 : p → TF P N l Q S f tr ((d, .bool true) :: σ) w) (k0 : ¬ p → TF P N l Q S f tr ((d, .bool false) :: σ) w) : TFo P N l Q S f tr ⟨some d, .binOp op tx x y ty, ty', pos, af, some (j, want)⟩ σ w := by
  have hdec := Classical.propDecidable p
  have he := fun H => ev_cmpG (P := P) (H := H) (d := some d) (t := ty') (pos := pos) (af := af) (gd := some (j, want)) (tx := tx) (ty := ty) hx hy hp
  by_cases h : p
  · exact TFo.evg hj hb heq (fun w' _ => by have := he w'.heap; rw [decide_eq_true h] at this; exact this) hd (k1 h)
  · exact TFo.evg hj hb heq (fun w' _ => by have := he w'.heap; rw [decide_eq_false h] at this; exact this) hd (k0 h)
end
attribute [irreducible] TFo

end Go.Eng

namespace Go.Proofs.YthlbihbchobllaaGreat
open Go Go.Eng Go.Proofs Go.NatM Go.RowKit

theorem Sl.deS {F : Nat → Prop} {H H' : Array Obj} {n c : Nat} {A : Option Addr} {l : List Nat} (hd : DE F H H') (h : Sl u64v H H.size A n c l) : Sl u64v H' H'.size A n c l := (Sl.de hd h).size
theorem Sm.deS {F : Nat → Prop} {H H' : Array Obj} {n c : Nat} {A : Option Addr} {l : List IV} (hF : ∀ b, fpA A n b → F b) (hd : DE F H H') (h : Sm 2 ivc H H.size A n c l) : Sm 2 ivc H' H'.size A n c l := (Sm.de hF hd h).size
theorem GI.de {F : Nat → Prop} {H H' : Array Obj} {x : IV} (hd : DE F H H') (h : GI H x) : GI H' x := ⟨Sl.deS hd h.s, h.u⟩
theorem LI.de {F : Nat → Prop} {H H' : Array Obj} {x : IV} {z : Int} (hd : DE F H H') (h : LI H z x) : LI H' z x := ⟨h.g.de hd, h.d, h.e⟩
theorem GM.de {H H' : Array Obj} {x : MV} {r c K : Nat} (hd : DE (fpA x.A x.n) H H') (h : GM H x r c K) : GM H' x r c K := ⟨h.sh, Sm.deS (fun _ h => h) hd h.s, fun y hy => ⟨(h.g y hy).1.de hd, (h.g y hy).2⟩⟩
theorem LM.de {H H' : Array Obj} {x : MV} {r c K : Nat} {F : Nat → Nat → Int} (hd : DE (fpA x.A x.n) H H') (h : LM H x r c F K) : LM H' x r c F K := ⟨h.sh, Sm.deS (fun _ h => h) hd h.s, fun i j hi hj => ⟨(h.g i j hi hj).1.de hd, (h.g i j hi hj).2⟩⟩
theorem RM.de {H H' : Array Obj} {x : MV} {K : Nat} (hd : DE (fpA x.A x.n) H H') (h : RM H x K) : RM H' x K := ⟨Sm.deS (fun _ h => h) hd h.s, fun y hy => ⟨(h.g y hy).1.de hd, (h.g y hy).2⟩⟩
def dpSl (A : Option Addr) (n c : Nat) (l : List Nat) : DP := ⟨fun H => Sl u64v H H.size A n c l, fun _ => False, fun _ _ _ h => h.elim, fun _ _ hd h => Sl.deS hd h⟩
def dpSm (A : Option Addr) (n c : Nat) (l : List IV) : DP := ⟨fun H => Sm 2 ivc H H.size A n c l, fpA A n, fun _ _ h hk => h.fp_lt hk, fun _ _ hd h => Sm.deS (fun _ h => h) hd h⟩
def dpGI (x : IV) : DP := ⟨fun H => GI H x, fun _ => False, fun _ _ _ h => h.elim, fun _ _ hd h => h.de hd⟩
def dpLI (z : Int) (x : IV) : DP := ⟨fun H => LI H z x, fun _ => False, fun _ _ _ h => h.elim, fun _ _ hd h => h.de hd⟩
def dpGM (x : MV) (r c K : Nat) : DP := ⟨fun H => GM H x r c K, fpA x.A x.n, fun _ _ h hk => h.s.fp_lt hk, fun _ _ hd h => h.de hd⟩
def dpLM (x : MV) (r c : Nat) (F : Nat → Nat → Int) (K : Nat) : DP := ⟨fun H => LM H x r c F K, fpA x.A x.n, fun _ _ h hk => h.s.fp_lt hk, fun _ _ hd h => h.de hd⟩
section
variable {S : Nat → Prop} {w0 w w' : World} {L : List VB} {D : List DP}
theorem mf_fp {x : MV} (h : MF w x) (k : Nat) (hk : fpA x.A x.n k) : w.heap.size ≤ k := by
  obtain ⟨h0, o, e⟩ := hk
  rcases h with h | ⟨b, e', hb⟩
  · omega
  · rw [e] at e'; cases e'; exact hb
theorem Fr.addSl (h : Fr w0 w L D S) {A : Option Addr} {n c : Nat} {l : List Nat} (k : Sl u64v w.heap w.heap.size A n c l) : Fr w0 w L (dpSl A n c l :: D) S := h.add _ k fun _ _ h => h
theorem Fr.addGI (h : Fr w0 w L D S) {x : IV} (k : GI w.heap x) : Fr w0 w L (dpGI x :: D) S := h.add _ k fun _ _ h => h
theorem Fr.addLI (h : Fr w0 w L D S) {x : IV} {z : Int} (k : LI w.heap z x) : Fr w0 w L (dpLI z x :: D) S := h.add _ k fun _ _ h => h
theorem Fr.addLM (h : Fr w0 w L D S) (hE : Ext w w') {x : MV} {r c K : Nat} {F : Nat → Nat → Int} (k : LM w'.heap x r c F K) (hf : MF w x) : Fr w0 w' L (dpLM x r c F K :: D) S := h.addNew hE _ k (mf_fp hf)
theorem Fr.sl (h : Fr w0 w L D S) {A : Option Addr} {n c : Nat} {l : List Nat} (hm : dpSl A n c l ∈ D) : Sl u64v w.heap w.heap.size A n c l := h.data _ hm
theorem Fr.sm (h : Fr w0 w L D S) {A : Option Addr} {n c : Nat} {l : List IV} (hm : dpSm A n c l ∈ D) : Sm 2 ivc w.heap w.heap.size A n c l := h.data _ hm
theorem Fr.gi (h : Fr w0 w L D S) {x : IV} (hm : dpGI x ∈ D) : GI w.heap x := h.data _ hm
theorem Fr.li (h : Fr w0 w L D S) {x : IV} {z : Int} (hm : dpLI z x ∈ D) : LI w.heap z x := h.data _ hm
theorem Fr.gm (h : Fr w0 w L D S) {x : MV} {r c K : Nat} (hm : dpGM x r c K ∈ D) : GM w.heap x r c K := h.data _ hm
theorem Fr.lm (h : Fr w0 w L D S) {x : MV} {r c K : Nat} {F : Nat → Nat → Int} (hm : dpLM x r c F K ∈ D) : LM w.heap x r c F K := h.data _ hm
end
attribute [irreducible] dpSl dpSm dpGI dpLI dpGM dpLM

end Go.Proofs.YthlbihbchobllaaGreat

namespace Go.Eng
open Go Go.RowKit

theorem made_flat {α : Type} {f : α → List Value} {u : α} {z : List Value} {c k : Nat} (hk : 0 < k) (hz : f u = z) (hl : z.length = k) : (madeCells z.toArray (c * k)).toList = (List.replicate c u).flatMap f := by
  have hw : ∀ x ∈ List.replicate c u, (f x).length = k := fun x hx => by rw [(List.mem_replicate.1 hx).2, hz, hl]
  apply List.ext_getElem?
  intro i
  rcases Nat.lt_or_ge i (c * k) with hi | hi
  · have h1 : i / k < c := Nat.div_lt_of_lt_mul (by rw [Nat.mul_comm]; exact hi)
    have h2 := flatMap_get hw (i / k) (i % k) u (by simp [h1]) (Nat.mod_lt _ hk)
    rw [Nat.div_add_mod'] at h2
    rw [h2, hz]
    have h3 : i % k < z.length := by rw [hl]; exact Nat.mod_lt _ hk
    simp [madeCells, hi, hl, List.getElem?_eq_getElem h3]
  · rw [List.getElem?_eq_none (by simp [madeCells]; exact hi), List.getElem?_eq_none (by rw [flatMap_len hw]; simp; exact hi)]
theorem flatMap_set {α : Type} {f : α → List Value} {k : Nat} (hw : ∀ x, (f x).length = k) (u : α) : ∀ (l : List α) (i : Nat), i < l.length → (l.flatMap f).take (i * k) ++ f u ++ (l.flatMap f).drop (i * k + k) = (l.set i u).flatMap f
  | [], i, h => by simp at h
  | y :: l, 0, h => by
    simp only [Nat.zero_mul, List.take_zero, List.nil_append, Nat.zero_add, List.set_cons_zero, List.flatMap_cons]
    rw [List.drop_append, List.drop_of_length_le (by rw [hw]; exact Nat.le_refl _), hw]; simp
  | y :: l, i + 1, h => by
    have ih := flatMap_set hw u l i (by simpa using h)
    simp only [List.set_cons_succ, List.flatMap_cons]
    rw [← ih]
    have e1 : (i + 1) * k = (f y).length + i * k := by rw [hw, Nat.add_mul, Nat.one_mul, Nat.add_comm]
    have e2 : (i + 1) * k + k = (f y).length + (i * k + k) := by rw [e1]; omega
    rw [e2, e1, List.take_length_add_append, List.drop_length_add_append]
    simp
section
variable {P : Program} {N : Fm} {Q : Exit → Act → World → Prop} {σ : Store} {S : Nat → Prop} {w0 w : World} {L : List VB} {D : List DP} {ops : Array Oper} {d : Nat} {t : TypeId} {pos : String} {af : Array Edge} {rest : List Oper}
/-- a new block of structs, known whole -/
theorem TL.makeFr (hF : Fr w0 w L D S) {α : Type} (f : α → List Value) (u : α) {x y : Operand} {ty e : TypeId} [hT : USlice P ty e] {z : List Value} {sz b1 : Nat} [hS : USize P e (.agg z.toArray) sz b1] {k k' : IntKind} {z1 z2 : Int} {n c : Nat} [e1 : IsN z1 n] [e2 : IsN z2 c]
    (hx : look σ x = some (.int k z1)) (hy : look σ y = some (.int k' z2)) (hd : Nat.blt d N.n = true) (hn : n ≤ c) (hc : b1 * c ≤ 281474976710656 ∧ c ≤ 9223372036854775807) (hu : f u = z) (hzl : Nat.beq z.length sz = true) (hz0 : Nat.blt 0 sz = true)
    (K : ∀ w' b, Fr w0 w' (⟨b, e, (List.replicate c u).flatMap f⟩ :: L) D S → TL P N .seq ops Q rest ((d, .slice (some ⟨b, 0, none⟩) n c) :: σ) w') :
    TL P N .seq ops Q (⟨some d, .makeSlice ty x y, t, pos, af, none⟩ :: rest) σ w := by
  obtain rfl := e1.out
  obtain rfl := e2.out
  obtain ⟨i, hi, hz0', hsz, hby⟩ := hS.info
  have hb : (i.bytes : Int) * (c : Int) ≤ 281474976710656 := by
    have h : ((i.bytes * c : Nat) : Int) ≤ 281474976710656 := by rw [hby]; omega
    rwa [Int.natCast_mul] at h
  have hr := fun (w : World) => run_make (P := P) w ty e i (.agg z.toArray) hT.out hi hz0' k k' (n : Int) (c : Int) (by omega) (by omega) hb (by omega)
  simp only [Int.toNat_natCast, hsz] at hr
  have hzl' := Nat.eq_of_beq_eq_true hzl
  have hsz0 : 0 < sz := by simpa [Nat.blt_eq] using hz0
  have hflat := made_flat (c := c) hsz0 hu hzl'
  refine TL.op (w' := w.alloc (.cells (madeCells z.toArray (c * sz)) e)) (fun ρ hρ => ?_) hd (K _ _ (hF.new rfl (t := e) ?_ (ext_alloc _ _)))
  · simp [execOp, hρ x _ hx, hρ y _ hy]
    have := hr w
    simp only [Value.cells] at this
    simp [this]
  · rw [← hflat]
    unfold Vr
    rw [heap_alloc]
/-- a struct stored into an element of a block known whole -/
theorem TL.storeAtFr (hF : Fr w0 w L D S) {α : Type} {f : α → List Value} {x y : Operand} {ty e : TypeId} {z : Value} {k b1 : Nat} [hS : USize P ty z k b1] {b i : Nat} {l : List α} (u : α) {vs : List Value} {L' : List VB}
    (hx : look σ x = some (.pointer (elemA (some ⟨b, 0, none⟩) (i * k)))) (hy : look σ y = some (.agg vs.toArray)) (hvs : f u = vs) (h1 : vs.all (·.oneCell') = true) (hw : ∀ x, (f x).length = k) (hi : i < l.length) (hn : (l.flatMap f).all noU64 = true)
    (hL : SetV L b e (l.flatMap f) ((l.set i u).flatMap f) L')
    (K : ∀ w', Fr w0 w' L' D S → TL P N .seq ops Q rest σ w') : TL P N .seq ops Q (⟨none, .store ty x y, t, pos, af, none⟩ :: rest) σ w := by
  subst hvs
  have hV := hF.var hL.inV
  have hlen : (l.flatMap f).length = l.length * k := flatMap_len fun x _ => hw x
  have hik : i * k + k ≤ l.length * k := by
    have h1 : (i + 1) * k ≤ l.length * k := Nat.mul_le_mul_right k hi
    rw [Nat.add_mul, Nat.one_mul] at h1
    exact h1
  obtain ⟨ii, hii, _, hsz', _⟩ := hS.info
  have hst := run_storeCells_at P b (0 + i * k) e (f u) 0 (l.flatMap f).toArray w hV (by simp only [List.size_toArray]; rw [hlen, hw]; omega) (fun v hv => List.all_eq_true.1 h1 v hv)
  simp only [Nat.add_zero, Nat.zero_add, hw] at hst
  rw [flatMap_set hw u l i hi] at hst
  refine TL.op0 (w' := w.setRow b ((l.set i u).flatMap f).toArray) (fun ρ hρ => ?_) (K _ (hF.store hL hn (upd_setRow _ _ _) ?_))
  · have e0 : look σ x = some (.pointer (some ⟨b, i * k, none⟩)) := by rw [hx]; simp [elemA, add_mk]
    simp [execOp, hρ x _ e0, hρ y _ hy, Instr.storeAt, Instr.sureAddr, storeVar, sizeOf, typeInfo, hii, hsz', Value.cells, hw]
    rw [hst]
    simp
  · unfold Vr at hV ⊢
    rw [setRow_heap w b _ _ e _ hV]
end
end Go.Eng

namespace Go.Eng
open Go Go.RowKit

section
variable {P : Program} {N : Fm} {Q : Exit → Act → World → Prop} {σ : Store} {S : Nat → Prop} {w0 w : World} {L : List VB} {D : List DP} {l : List Oper}
/-- .. a drawn region in which the newest block may be written -/
theorem T.regionFt {v : VB} (hF : Fr w0 w (v :: L) D S) (id : Nat) (f : Nat) (t : Rt) (hm : P.follows .mixedOrders = true) (hB : treeB l.toArray f t = true)
    (h : ∀ w1 : World, Fr w0 w1 (v :: L) D S → TF P N l Q (fun w' => Fr w0 w' L D S) f t σ w1) : T P N (.region id l.toArray true) Q σ w :=
  T.regionF _ f t hm hB ((hF.weak (List.Sublist.cons _ (List.Sublist.refl _)) allR).exts (ext_drewN w 1)) (h _ (hF.exts (ext_drewN w 1)))
end
/-- the fence that lets all in, in a round or not -/
def wideR (R : Option Nat) : Fence := { Fence.wide with round := R }
theorem calls_in {R : Option Nat} {n : Nat} {P : Program} {f : FuncId} {args : Array Value} {w : World} {Q : Ending → World → Prop} (h : Calls P f args w Q) : CallsIn (wideR R) n P f args w Q :=
  callsIn_wide (n := n).2 h
theorem rows_in {R : Option Nat} {n : Nat} {P : Program} {row : String} {args : Array Value} {w : World} {Q : Value → World → Prop} (h : Rows P row args w Q) : RowsIn (wideR R) n P row args w Q :=
  fun c cs _ => let ⟨v, w', r, s⟩ := h c cs; ⟨v, w', r, (stepsIn_wide (P := P)).2 s⟩
theorem upon_in {R : Option Nat} {n : Nat} {P : Program} {o : Oper} {a : Act} {next next' : Act → World → Prop} {Q Q' : Exit → Act → World → Prop} {r : Result Next} (hn : ∀ a w, next a w → next' a w) (hq : ∀ c a w, Q (.panic c) a w → Q' (.panic c) a w) (hl : ∀ a w, Q .outgrown a w → Q' .outgrown a w)
    (h : o.upon P a next Q r) : o.uponIn (wideR R) n P a next' Q' r := by
  unfold Oper.upon at h
  unfold Oper.uponIn
  split at h
  · exact hn _ _ h
  · exact hn _ _ h
  · exact hn _ _ h
  · refine ⟨fun e => (by cases e), calls_in (h.mono ?_)⟩
    intro e w' he
    cases e with
    | returned v => exact hn _ _ he
    | panicked c => exact hq _ _ _ he
    | outgrown => obtain ⟨a0, w0, h0⟩ := he; exact ⟨a0, w0, hl _ _ h0⟩
  · exact ⟨fun e => (by cases e), rows_in (h.mono fun v w' he => hn _ _ he)⟩
  · exact hq _ _ _ h
  · exact h.elim
def noDefer (o : Oper) : Bool := match o.op with
  | .defer _ => false
  | _ => true
theorem wp_in {R : Option Nat} {n : Nat} {P : Program} {o : Oper} {a : Act} {w : World} {next next' : Act → World → Prop} {Q Q' : Exit → Act → World → Prop} (hd : noDefer o = true) (hn : ∀ a w, next a w → next' a w) (hq : ∀ c a w, Q (.panic c) a w → Q' (.panic c) a w) (hl : ∀ a w, Q .outgrown a w → Q' .outgrown a w)
    (h : o.wp P a w next Q) : o.wpIn (wideR R) n P a w next' Q' := by
  refine ⟨fun _ _ => trivial, ?_⟩
  rw [Oper.semAt_eq _ _ _ (fun c e => by unfold noDefer at hd; rw [e] at hd; cases hd)]
  exact upon_in hn hq hl h
/-- no way that outgrows the memory is let out -/
def NoOut (Q : Exit → Act → World → Prop) : Prop := ∀ a w, ¬ Q .outgrown a w
theorem NoOut.lets {Q : Exit → Act → World → Prop} (h : NoOut Q) : ¬ LetsOut Q := fun ⟨a, w, hq⟩ => h a w hq
theorem list_in {R : Option Nat} {n : Nat} {P : Program} {ops : Array Oper} {Q : Exit → Act → World → Prop} (hno : NoOut Q) : ∀ (l : List Oper) (a : Act) (w : World), l.all noDefer = true → wpList P ops Q l a w → wpListIn (wideR R) n P ops Q l a w
  | [], a, w, _, h => h
  | o :: rest, a, w, hd, h => by
    simp only [List.all_cons, Bool.and_eq_true] at hd
    unfold wpListIn
    unfold wpList at h
    by_cases hw : Region.wanted o (yielded ops a.tmps) = true
    · rw [if_pos hw] at h ⊢
      rcases h with h | h
      · exact wp_in hd.1 (fun a w h => list_in hno rest a w hd.2 h) (fun _ _ _ h => h) (fun _ _ h => h) h
      · exact absurd h.2 hno.lets
    · rw [if_neg hw] at h ⊢
      exact ⟨fun _ _ => trivial, list_in hno rest _ w hd.2 h⟩

section
variable (P : Program) (R : Option Nat) (N : Fm)
/-- a piece of code, in a round's frame or not -/
def TI (c : Code) (Q : Exit → Act → World → Prop) (σ : Store) (w : World) : Prop := NoOut Q → ∀ a, Rep N σ a → c.wpIn (wideR R) 0 P Q a w
/-- operations of a region, in a round's frame or not -/
def TLI (ops : Array Oper) (Q : Exit → Act → World → Prop) (l : List Oper) (σ : Store) (w : World) : Prop := NoOut Q → ∀ a, Rep N σ a → wpListIn (wideR R) 0 P ops Q l a w
/-- the code that comes next -/
def Kc (c : Code) (Q : Exit → Act → World → Prop) (a : Act) (w : World) : Prop := NoOut Q → c.wpIn (wideR R) 0 P Q a w
def Kl (ops : Array Oper) (Q : Exit → Act → World → Prop) (l : List Oper) (a : Act) (w : World) : Prop := NoOut Q → wpListIn (wideR R) 0 P ops Q l a w
end
section
variable {P : Program} {R : Option Nat} {N : Fm} {Q : Exit → Act → World → Prop} {σ : Store} {w : World} {ops : Array Oper} {rest : List Oper}
theorem TI.is {c : Code} (h : TI P R N c Q σ w) : TI P R N c Q σ w := h
theorem TI.seq {x y : Code} (h : TI P R N x (Exit.then (Kc P R y Q) Q) σ w) : TI P R N (x.seq y) Q σ w := fun hno a ha => wpIn_seq (wpIn_mono (h hno a ha) fun e a w hq => by
  cases e with
  | normal => exact hq hno
  | _ => exact hq)
theorem TI.skip (h : G N .normal Q σ w) : TI P R N .skip Q σ w := by unfold G at h; exact fun _ a ha => wpIn_skip (h a ha)
theorem TI.label {l : Nat} (h : G N .normal Q σ w) : TI P R N (.label l) Q σ w := by unfold G at h; exact fun _ a ha => wpIn_label (h a ha)
theorem TI.exit {id : Nat} (h : G N (.exit id) Q σ w) : TI P R N (.exit id) Q σ w := by unfold G at h; exact fun _ a ha => wpIn_exit (h a ha)
theorem TI.ret (h : G N .ret Q σ w) : TI P R N .ret Q σ w := by unfold G at h; exact fun _ a ha => wpIn_ret (h a ha)
theorem TI.block {id : Nat} {c : Code} (h : TI P R N c (Exit.inBlock id Q) σ w) : TI P R N (.block id c) Q σ w := fun hno a ha => wpIn_block (h hno a ha)
theorem TI.cond_t {c : Operand} {x y : Code} (hc : look σ c = some (.bool true)) (h : TI P R N x Q σ w) : TI P R N (.cond c x y) Q σ w :=
  fun hno a ha => wpIn_cond_true (ha.agree _ _ hc) (h hno a ha)
theorem TI.cond_f {c : Operand} {x y : Code} (hc : look σ c = some (.bool false)) (h : TI P R N y Q σ w) : TI P R N (.cond c x y) Q σ w :=
  fun hno a ha => wpIn_cond_false (ha.agree _ _ hc) (h hno a ha)
theorem TI.sub {c : Code} {σ' : Store} (hs : Sub σ' σ) (h : TI P R N c Q σ' w) : TI P R N c Q σ w := fun hno a ha => h hno a (ha.sub hs)
theorem TI.region {id : Nat} {l : List Oper} (hd : l.all noDefer = true) (h : TL P N .seq l.toArray Q l σ w) : TI P R N (.region id l.toArray false) Q σ w := by
  unfold TL at h
  exact fun hno a ha => wpIn_region_lit (list_in hno _ _ _ hd (h a ha))
theorem TI.regionI {id : Nat} {l : List Oper} (h : TLI P R N l.toArray Q l σ w) : TI P R N (.region id l.toArray false) Q σ w := fun hno a ha => wpIn_region_lit (h hno a ha)
theorem TLI.is {l : List Oper} (h : TLI P R N ops Q l σ w) : TLI P R N ops Q l σ w := h
theorem YieldAt.weak {F : Fence} {m : Nat} {P : Program} {l : Nat} {args : Array Value} {W : World} {R R' : Ending → World → Prop} (h : YieldAt F m P l args W R) (hr : ∀ e w, R e w → R' e w) : YieldAt F m P l args W R' := by
  obtain ⟨fn, tmps, assign, body, hy, hR⟩ := h
  exact ⟨fn, tmps, assign, body, hy, RoundIn.mono hR hr⟩
theorem TLI.nil (h : G N .normal Q σ w) : TLI P R N ops Q [] σ w := by unfold G at h; exact fun _ a ha => h a ha
theorem TLI.step {o : Oper} (hd : noDefer o = true) (h : TL P N .seq ops (Exit.then (Kl P R ops Q rest) Q) [o] σ w) : TLI P R N ops Q (o :: rest) σ w := by
  intro hno a ha
  unfold TL at h
  have h1 := h a ha
  simp only [wpList] at h1
  unfold wpListIn
  by_cases hw : Region.wanted o (yielded ops a.tmps) = true
  · rw [if_pos hw] at h1 ⊢
    rcases h1 with h1 | h1
    · exact wp_in hd (fun a w h => h hno) (fun _ _ _ h => h) (fun _ _ h => h) h1
    · exact absurd h1.2 (NoOut.lets (Q := Exit.then (Kl P R ops Q rest) Q) hno)
  · rw [if_neg hw] at h1 ⊢
    exact ⟨fun _ _ => trivial, h1 hno⟩
theorem G.nextL (h : TLI P R N ops Q rest σ w) : G N .normal (Exit.then (Kl P R ops Q rest) Q) σ w := by unfold G; exact fun a ha hno => h hno a ha
theorem G.nextI {y : Code} (h : TI P R N y Q σ w) : G N .normal (Exit.then (Kc P R y Q) Q) σ w := by unfold G; exact fun a ha hno => h hno a ha
theorem exec_yield {ρ : Operand → Value} {l : Nat} {x : Operand} {xs : List Operand} {tys : Array TypeId} {vs : List Value} {dd : Option Tmp} {t : TypeId} {pos : String} {af : Array Edge} {gd : Option (Nat × Bool)} {r : Next} (hρ : Agree σ ρ) (hf : look σ x = some (.func (.yield l) #[] #[])) (hx : looks σ xs = some vs)
    (hy : (Instr.yield l vs.toArray).run P w = .ok r w) : (execOp ρ ⟨dd, .call { callee := .value x, args := xs.toArray, argTypes := tys }, t, pos, af, gd⟩).run P w = .ok r w := by
  have e := hρ.list xs vs hx
  have ef := hρ x _ hf
  simp [execOp, resolve, ef, Deferred.ofValue, invoke, e, hy]
/-- a call of yield -/
theorem TLI.yield {l : Nat} {d : Nat} {x : Operand} {xs : List Operand} {tys : Array TypeId} {vs : List Value} {t : TypeId} {pos : String} {af : Array Edge} (hf : look σ x = some (.func (.yield l) #[] #[])) (hx : looks σ xs = some vs) (hd : Nat.blt d N.n = true)
    (k : YieldAt Fence.wide 0 P l vs.toArray w fun e w' => ∃ v, e = .returned v ∧ TLI P R N ops Q rest ((d, v) :: σ) w') :
    TLI P R N ops Q (⟨some d, .call { callee := .value x, args := xs.toArray, argTypes := tys }, t, pos, af, none⟩ :: rest) σ w := by
  obtain ⟨fn, tmps, assign, body, hy, hR⟩ := k
  intro hno a ha
  refine wpListIn_plain rfl fun K hK => ⟨fun _ _ => trivial, ?_⟩
  rw [Oper.semAt_eq _ _ _ (fun c e => by cases e), exec_yield ha.agree hf hx hy, Oper.uponIn_round]
  refine ⟨fun e => (by cases e), RoundIn.mono (F := wideR R) hR ?_⟩
  rintro e w' ⟨v, rfl, hk⟩
  exact hK _ _ (hk hno _ (ha.put hd v))
theorem TI.loop {α : Type} {c : Code} (st : α → Store) (I : α → World → Prop) (μ : α → Nat) (x0 : α) (hs : Sub (st x0) σ) (h0 : I x0 w)
    (round : ∀ x w, I x w → TI P R N c (Exit.then (fun a' w' => ∃ x', Rep N (st x') a' ∧ I x' w' ∧ μ x' < μ x) Q) (st x) w) : TI P R N (.loop c) Q σ w := by
  intro hno a ha b k cs hro hb hr
  have key : ∀ j x a w, μ x = j → Rep N (st x) a → I x w →
      ∃ e a' w', Q e a' w' ∧ ArrivesIn (Machine.fenced P (wideR R)) P (lone (b.atR a (.code c :: .inLoop c :: k)) cs w) b k cs e a' w' := by
    intro j
    induction j using Nat.strongRecOn with
    | _ j ih =>
      intro x a w hx hrr hI
      obtain ⟨e, a₁, w₁, hq, harr⟩ := round x w hI hno a hrr b (.inLoop c :: k) cs hro hb hr
      cases e with
      | normal =>
        obtain ⟨x', hr', hI', hlt⟩ := hq
        obtain ⟨e₂, a₂, w₂, hq₂, harr₂⟩ := ih (μ x') (hx ▸ hlt) x' a₁ w₁ rfl hr' hI'
        exact ⟨e₂, a₂, w₂, hq₂, .of_steps (StepsIn.trans harr (.one (fenced_calm (n := 0) hb hr rfl) stepR_inLoop)) harr₂⟩
      | exit id => exact ⟨_, a₁, w₁, hq, .pass (x := .inLoop c) rfl (fun _ _ => .inl (by simp)) harr⟩
      | goto l => exact ⟨_, a₁, w₁, hq, .pass (x := .inLoop c) rfl (fun _ _ => .inl (by simp)) harr⟩
      | ret => exact ⟨_, a₁, w₁, hq, .pass (x := .inLoop c) rfl (fun _ _ => .inl (by simp)) harr⟩
      | panic ch => exact ⟨_, a₁, w₁, hq, .pass (x := .inLoop c) rfl (fun _ _ => .inl (by simp)) harr⟩
      | outgrown => exact ⟨_, a₁, w₁, hq, .pass (x := .inLoop c) rfl (fun _ _ => .inl (by simp)) harr⟩
  obtain ⟨e, a', w', hq, harr⟩ := key _ x0 a w rfl (ha.sub hs) h0
  exact ⟨e, a', w', hq, .of_steps (.one (fenced_calm (n := 0) hb hr rfl) stepR_loop) harr⟩
end

/-! ### Worlds behind the loop's book-keeping -/
/-- cells stand, and all that lay below B -/
def keepsObj : Obj → Bool
  | .cells .. => true
  | .map .. => true
  | .mapIter .. => true
  | _ => false
theorem keepsObj_map {o : Obj} (h : mapO o = true) : keepsObj o = true := by cases o <;> first | rfl | cases h
structure Cx (B : Nat) (w w' : World) : Prop where
  os : w'.os = w.os
  tape : w'.tape = w.tape
  output : w'.output = w.output
  size : w.heap.size ≤ w'.heap.size
  low : ∀ k, k < B → k < w.heap.size → w'.heap[k]? = w.heap[k]?
  cells : ∀ (k : Nat) (o : Obj), w.heap[k]? = some o → keepsObj o = true → w'.heap[k]? = w.heap[k]?
theorem Cx.refl (B : Nat) (w : World) : Cx B w w := ⟨rfl, rfl, rfl, Nat.le_refl _, fun _ _ _ => rfl, fun _ _ _ _ => rfl⟩
theorem Cx.of {B : Nat} {w w' : World} (h : Ext w w') : Cx B w w' := ⟨h.os, h.tape, h.output, h.size, fun k _ hk => h.block k hk, fun k o hk _ => h.block k (Array.getElem?_eq_some_iff.1 hk).1⟩
theorem Cx.trans {B : Nat} {a b c : World} (h : Cx B a b) (k : Cx B b c) : Cx B a c :=
  ⟨k.os.trans h.os, k.tape.trans h.tape, k.output.trans h.output, Nat.le_trans h.size k.size, fun i hi hl => (k.low i hi (Nat.lt_of_lt_of_le hl h.size)).trans (h.low i hi hl),
    fun i o hi ho => by have h1 := h.cells i o hi ho; exact (k.cells i o (h1.trans hi) ho).trans h1⟩
theorem Cx.put {B : Nat} {w : World} {l : Nat} {o : Obj} (o' : Obj) (hl : B ≤ l) (h : w.heap[l]? = some o) (ho : keepsObj o = false) : Cx B w (w.putObj l o') :=
  ⟨rfl, rfl, rfl, Nat.le_of_eq World.putObj_size.symm, fun k hk _ => World.putObj_heap_other (by omega), fun k x hk hx => World.putObj_heap_other (fun e => by subst e; rw [h] at hk; cases hk; rw [ho] at hx; cases hx)⟩
theorem Cx.mono {B B' : Nat} {w w' : World} (h : Cx B w w') (hB : B' ≤ B) : Cx B' w w' := ⟨h.os, h.tape, h.output, h.size, fun k hk => h.low k (Nat.lt_of_lt_of_le hk hB), h.cells⟩
theorem Cx.ext {w0 w w' : World} {B : Nat} (h : Ext w0 w) (k : Cx B w w') (hB : w0.heap.size ≤ B) : Ext w0 w' :=
  ⟨k.os.trans h.os, k.tape.trans h.tape, k.output.trans h.output, Nat.le_trans h.size k.size, fun i hi => (k.low i (Nat.lt_of_lt_of_le hi hB) (Nat.lt_of_lt_of_le hi h.size)).trans (h.block i hi)⟩
theorem Cx.de {F : Nat → Prop} {B : Nat} {w w' : World} (k : Cx B w w') : DE F w.heap w'.heap := ⟨k.size, fun i cs t x hi _ => k.cells i _ hi rfl, fun i o hi ho _ => k.cells i _ hi (keepsObj_map ho)⟩
section
variable {S : Nat → Prop} {w0 w w' W : World} {L : List VB} {D : List DP} {B : Nat}
theorem Fr.cx (h : Fr w0 w L D S) (k : Cx B w w') (hB : w0.heap.size ≤ B) : Fr w0 w' L D S :=
  ⟨⟨k.os.trans h.exs.os, k.tape.trans h.exs.tape, k.output.trans h.exs.output, Nat.le_trans h.exs.size k.size, fun i hi hs => (k.low i (Nat.lt_of_lt_of_le hi hB) (Nat.lt_of_lt_of_le hi h.exs.size)).trans (h.exs.block i hi hs)⟩,
    fun v hv => ⟨(h.vars v hv).1, by have h1 := (h.vars v hv).2; unfold Vr at h1 ⊢; exact (k.cells _ _ h1 rfl).trans h1⟩, h.dist, fun d hd => d.st _ _ k.de (h.data d hd), h.apart⟩
/-- a new first world: what stood at w0 stands at W, and S names blocks of cells that are not older than w0 -/
structure Opn (w0 W : World) (S : Nat → Prop) : Prop where
  ext : Ext w0 W
  lo : ∀ k, S k → w0.heap.size ≤ k
  cells : ∀ k, S k → ∃ o : Obj, W.heap[k]? = some o ∧ o.isCells = true
/-- from W on -/
theorem Fr.open (h : Fr w0 W L D) : ∃ S, Opn w0 W S ∧ Fr W W L D S :=
  ⟨fun k => ∃ v ∈ L, v.b = k, ⟨h.ext, fun k ⟨v, hv, e⟩ => by rcases (h.vars v hv).1 with h1 | h1; exact e ▸ h1; exact h1.elim, fun k ⟨v, hv, e⟩ => ⟨_, e ▸ (h.vars v hv).2, rfl⟩⟩,
    Exs.refl _ _, fun v hv => ⟨.inr ⟨v, hv, rfl⟩, (h.vars v hv).2⟩, h.dist, h.data, h.apart⟩
theorem Fr.outer (hO : Opn w0 W S) (h : Fr W w L D S) : Ext w0 w :=
  ⟨h.exs.os.trans hO.ext.os, h.exs.tape.trans hO.ext.tape, h.exs.output.trans hO.ext.output, Nat.le_trans hO.ext.size h.exs.size, fun k hk => (h.exs.block k (Nat.lt_of_lt_of_le hk hO.ext.size) (fun hs => by have := hO.lo k hs; omega)).trans (hO.ext.block k hk)⟩
theorem Fr.shut (hO : Opn w0 W S) (h : Fr W w L D S) : Fr w0 w L D :=
  ⟨.of (h.outer hO), fun v hv => ⟨.inl (by rcases (h.vars v hv).1 with h1 | h1; exact Nat.le_trans hO.ext.size h1; exact hO.lo _ h1), (h.vars v hv).2⟩, h.dist, h.data, h.apart⟩
theorem Fr.others (hO : Opn w0 W S) (h : Fr W w L D S) : KeepsOthers W w :=
  ⟨h.exs.size, fun k o hk ho => (h.exs.block k (Array.getElem?_eq_some_iff.1 hk).1 (fun hs => by obtain ⟨o', h1, h2⟩ := hO.cells k hs; rw [hk] at h1; cases h1; rw [ho] at h2; cases h2)).trans hk⟩
end

/-! ### The statement -/
/-- the rounds' parameters laid into the store -/
def putAll : List Nat → List Value → Store → Store
  | p :: ps, v :: vs, σ => putAll ps vs ((p, v) :: σ)
  | _, _, σ => σ
theorem Rep.fold {N : Fm} : ∀ (ps : List Nat) (vs : List Value) {σ : Store} {a : Act}, Rep N σ a → ps.all (fun p => Nat.blt p N.n) = true → Rep N (putAll ps vs σ) { a with tmps := (ps.zip vs).foldl (fun t (x : Nat × Value) => t.setIfInBounds x.1 x.2) a.tmps }
  | [], vs, σ, a, h, _ => by simpa [putAll] using h
  | p :: ps, [], σ, a, h, _ => by simpa [putAll] using h
  | p :: ps, v :: vs, σ, a, h, hp => by
    simp only [List.all_cons, Bool.and_eq_true] at hp
    have := Rep.fold ps vs (h.put hp.1 v) hp.2
    simpa [putAll, Act.put] using this
/-- an iterator's contract: it calls yield m times, with arguments that meet Fx, as long as It is kept; J i: i rounds are over; Jx: a round has said no -/
def Iter (P : Program) (gf : FuncId) (cap : List Value) {β : Type} (args : β → List Value) (m : Nat) (It : World → Prop) (Fx : Nat → β → World → World → Prop) : Prop :=
  ∀ (l : Nat) (J : Nat → World → Prop) (Jx : World → Prop) (W : World), (∀ i W W', J i W → Ext W W' → J i W') → (∀ W W', Jx W → Ext W W' → Jx W') → It W → J 0 W →
    (∀ i x Wb W1, i < m → J i Wb → It Wb → Ext Wb W1 → Fx i x Wb W1 → YieldAt Fence.wide 0 P l (args x).toArray W1 fun e W' => (e = .returned (.bool true) ∧ J (i + 1) W' ∧ It W') ∨ (e = .returned (.bool false) ∧ Jx W')) →
    Calls P gf (Value.func (.yield l) #[] #[] :: cap).toArray W fun e W' => (∃ v, e = .returned v) ∧ ((J m W' ∧ It W') ∨ Jx W')
/-- how the body of a round may be left -/
def RPost (I : World → Prop) (Ix : Code → World → Prop) (W : World) : Exit → Act → World → Prop
  | .normal, _, w' => KeepsOthers W w' ∧ I w'
  | .ret, _, w' => KeepsOthers W w' ∧ Ix .ret w'
  | .exit id, _, w' => KeepsOthers W w' ∧ Ix (.exit id) w'
  | _, _, _ => False
/-- behind the assignment to the loop's left sides -/
def Begun (P : Program) (B l : Nat) (body : Code) (I : World → Prop) (Ix : Code → World → Prop) (W : World) (a₁ : Act) (w₁ : World) : Prop :=
  KeepsOthers W w₁ ∧ ∀ w₂, Cx B w₁ w₂ → (∃ r, w₂.heap[l]? = some (.loop r)) → body.wpIn (wideR (some l)) 0 P (RPost I Ix w₂) a₁ w₂
theorem G.begun {P : Program} {N : Fm} {σ : Store} {B l : Nat} {body : Code} {I : World → Prop} {Ix : Code → World → Prop} {Q : Exit → Act → World → Prop} {W w : World} (hK : KeepsOthers W w)
    (h : ∀ w₂, Cx B w w₂ → (∃ r, w₂.heap[l]? = some (.loop r)) → TI P (some l) N body (RPost I Ix w₂) σ w₂) : G N .normal (Exit.then (Begun P B l body I Ix W) Q) σ w := by
  unfold G; exact fun a ha => ⟨hK, fun w₂ hc hr => h w₂ hc hr (fun _ _ h => h) a ha⟩
def markOf (D : Nat) : Deferred := { target := .collected D, args := #[] }
theorem TI.rangeFunc {P : Program} {n : Nat} {Q : Exit → Act → World → Prop} {σ : Store} {w : World} {g : Operand} {ps : List Nat} {assign body : Code} {gf : FuncId} {cap : List Value} {β : Type} {args : β → List Value} {m : Nat} {It : World → Prop} {Fx : Nat → β → World → World → Prop}
    (hIt : Iter P gf cap args m It Fx) (hg : look σ g = some (.func (.func gf) #[] cap.toArray)) (hfn : IsFn P gf) (hps : ∀ x, (args x).length = ps.length) (hpn : ps.all (fun p => Nat.blt p n) = true)
    (it0 : It w) (hItc : ∀ W W', It W → Cx w.heap.size W W' → It W')
    (I : Nat → World → Prop) (Ix : Code → World → Prop) (hI : ∀ i W W', I i W → Cx w.heap.size W W' → I i W') (hIx : ∀ c W W', Ix c W → Cx w.heap.size W W' → Ix c W') (h0 : I 0 w)
    (hround : ∀ l i x Wb W, i < m → w.heap.size + 1 ≤ l → (∃ r, W.heap[l]? = some (.loop r)) → I i Wb → It Wb → Ext Wb W → Fx i x Wb W → TI P (some l) ⟨n, []⟩ assign (Exit.then (Begun P w.heap.size l body (fun w' => I (i + 1) w' ∧ It w') Ix W) (fun _ _ _ => False)) (putAll ps (args x) σ) W)
    (hdone : ∀ D w', w.heap.size ≤ D → w'.heap[D]? = some (.deferred (some [])) → I m w' → It w' → G ⟨n, [markOf D]⟩ .normal Q σ w')
    (hstop : ∀ D c w', w.heap.size ≤ D → w'.heap[D]? = some (.deferred (some [])) → Ix c w' → TI P none ⟨n, [markOf D]⟩ c Q σ w') :
    TI P none ⟨n, []⟩ (.rangeFunc g ps.toArray assign body) Q σ w := by
  intro hno a ha
  refine wpIn_rangeFunc (F := wideR none) (n := 0) ?_
  intro fn _
  have hnd : a.defers = [] := ha.nodef
  obtain ⟨rec, hrec⟩ : ∃ rec : LoopState → Option Code → Loop, rec = fun st pe => { state := st, pending := pe, fn, tmps := a.tmps, params := ps.toArray, assign, body, defers := w.heap.size } := ⟨_, rfl⟩
  obtain ⟨W1, hW1⟩ : ∃ W1, (w.alloc (.deferred (some []))).alloc (.loop (rec .ready none)) = W1 := ⟨_, rfl⟩
  have hE1 : Ext w W1 := by rw [← hW1]; exact Ext.trans (ext_alloc _ _) (ext_alloc _ _)
  have hL1 : W1.heap[w.heap.size + 1]? = some (.loop (rec .ready none)) := by
    rw [← hW1]; have := World.alloc_heap_new (w.alloc (.deferred (some []))) (.loop (rec .ready none)); rwa [World.size_alloc] at this
  have hK1 : W1.heap[w.heap.size]? = some (.deferred (some [])) := by
    rw [← hW1]; exact (Below.heap_alloc _ _ _ (by simp)).trans (World.alloc_heap_new w _)
  have ef := ha.agree _ _ hg
  refine ⟨w.heap.size + 1, [markOf w.heap.size], W1, { target := .fn (.func gf) cap.toArray, args := #[.func (.yield (w.heap.size + 1)) #[] #[]] }, W1, gf,
    (Value.func (.yield (w.heap.size + 1)) #[] #[] :: cap).toArray, W1, ?_, ?_, fun _ _ => trivial, ?_, fun e => (by cases e), ?_⟩
  · rw [← hW1, hrec]; exact run_enterLoop_outer _ _ _ _ _
  · simp only [resolve, ef]
    simp [go_sem]
  · simp [invoke, run_callFunc_enter hfn]
  · have recE : ∀ {W W' : World} {o : Obj} {k : Nat}, W.heap[k]? = some o → Ext W W' → W'.heap[k]? = some o := fun h hE => (hE.block _ (Array.getElem?_eq_some_iff.1 h).1).trans h
    refine calls_in ((hIt (w.heap.size + 1) (fun i W => I i W ∧ W.heap[w.heap.size + 1]? = some (.loop (rec .ready none)) ∧ W.heap[w.heap.size]? = some (.deferred (some [])))
      (fun W => ∃ c, Ix c W ∧ W.heap[w.heap.size + 1]? = some (.loop (rec .done (some c))) ∧ W.heap[w.heap.size]? = some (.deferred (some []))) W1
      (fun i W W' h hE => ⟨hI i W W' h.1 (.of hE), recE h.2.1 hE, recE h.2.2 hE⟩) (fun W W' ⟨c, h⟩ hE => ⟨c, hIx c W W' h.1 (.of hE), recE h.2.1 hE, recE h.2.2 hE⟩)
      (hItc _ _ it0 (.of hE1)) ⟨hI _ _ _ h0 (.of hE1), hL1, hK1⟩ ?_).mono ?_)
    · rintro i x Wb W hi ⟨hi0, hl, hk⟩ hit hEb hfx
      replace hl := recE hl hEb
      replace hk := recE hk hEb
      have hlt : w.heap.size + 1 < W.heap.size := (Array.getElem?_eq_some_iff.1 hl).1
      have hy := run_yield (P := P) (args := (args x).toArray) hl (by rw [hrec]; simpa using hps x)
      rw [hrec] at hy
      refine ⟨fn, _, assign, body, hy, roundIn_of_wpIn (F := Fence.wide) (n := 0) trivial ?_⟩
      have hrep : Rep ⟨n, []⟩ (putAll ps (args x) σ) { tmps := (ps.toArray.zip (args x).toArray).foldl (fun t (x : Nat × Value) => t.setIfInBounds x.1 x.2) a.tmps, defers := [] } := by
        have := Rep.fold ps (args x) ha hpn
        rw [hnd] at this
        simpa [List.zip_toArray] using this
      refine wpIn_mono (hround (w.heap.size + 1) i x Wb W hi (Nat.le_refl _) ⟨_, hl⟩ hi0 hit hEb hfx (fun _ _ h => h) _ hrep) ?_
      rintro e a₁ w₁ hq
      cases e with
      | normal =>
        obtain ⟨hk1, hbody⟩ := hq
        have hl1 := hk1.same _ _ hl rfl
        have hd1 := hk1.same _ _ hk rfl
        have hlt1 := (Array.getElem?_eq_some_iff.1 hl1).1
        refine ⟨_, run_beginRound hl1 (by rw [hrec]), ?_⟩
        have hc2 : Cx w.heap.size w₁ (w₁.putObj (w.heap.size + 1) (.loop { rec .ready none with state := .busy })) := .put _ (by omega) hl1 rfl
        have hl2 : (w₁.putObj (w.heap.size + 1) (.loop { rec .ready none with state := .busy })).heap[w.heap.size + 1]? = some (.loop { rec .ready none with state := .busy }) := World.putObj_heap_same hlt1
        have hk2 : (w₁.putObj (w.heap.size + 1) (.loop { rec .ready none with state := .busy })).heap[w.heap.size]? = some (.deferred (some [])) := (World.putObj_heap_other (by omega)).trans hd1
        refine wpIn_mono (hbody _ hc2 ⟨_, hl2⟩) ?_
        have fin : ∀ (jump : Option Code) (W3 : World), KeepsOthers (w₁.putObj (w.heap.size + 1) (.loop { rec .ready none with state := .busy })) W3 →
            ∃ W4, (Instr.endRound (w.heap.size + 1) jump).run P W3 = .ok (.bool jump.isNone) W4 ∧ Cx w.heap.size W3 W4 ∧
            W4.heap[w.heap.size + 1]? = some (.loop (rec (if jump.isNone then .ready else .done) jump)) ∧ W4.heap[w.heap.size]? = some (.deferred (some [])) := fun jump W3 hk3 => by
          have hl3 := hk3.same _ _ hl2 rfl
          have := run_endRound (P := P) jump hl3
          refine ⟨_, this, .put _ (by omega) hl3 rfl, ?_, (World.putObj_heap_other (by omega)).trans (hk3.same _ _ hk2 rfl)⟩
          rw [World.putObj_heap_same (Array.getElem?_eq_some_iff.1 hl3).1, hrec]
        rintro e a3 W3 hp
        cases e with
        | normal =>
          obtain ⟨W4, hr, hc4, hl4, hk4⟩ := fin none W3 hp.1
          exact ⟨_, _, hr, .inl ⟨rfl, ⟨hI _ _ _ hp.2.1 hc4, hl4, hk4⟩, hItc _ _ hp.2.2 hc4⟩⟩
        | ret =>
          obtain ⟨W4, hr, hc4, hl4, hk4⟩ := fin (some .ret) W3 hp.1
          exact ⟨_, _, hr, .inr ⟨rfl, .ret, hIx _ _ _ hp.2 hc4, hl4, hk4⟩⟩
        | exit id =>
          obtain ⟨W4, hr, hc4, hl4, hk4⟩ := fin (some (.exit id)) W3 hp.1
          exact ⟨_, _, hr, .inr ⟨rfl, .exit id, hIx _ _ _ hp.2 hc4, hl4, hk4⟩⟩
        | goto t => exact hp.elim
        | panic ch => exact hp.elim
        | outgrown => exact hp.elim
      | _ => exact hq.elim
    · rintro e W2 ⟨⟨v, rfl⟩, (⟨⟨hi, hl, hk⟩, hit⟩ | ⟨c, hi, hl, hk⟩)⟩
      · have hc : Cx w.heap.size W2 (W2.putObj (w.heap.size + 1) (.loop { rec .ready none with state := .exhausted })) := .put _ (by omega) hl rfl
        have hq := hdone w.heap.size _ (Nat.le_refl _) ((World.putObj_heap_other (by omega)).trans hk) (hI _ _ _ hi hc) (hItc _ _ hit hc)
        unfold G at hq
        refine ⟨none, _, (run_endLoop (P := P) hl (by rw [hrec]; simp)).trans (congrArg (fun x => Result.ok x _) (show (rec .ready none).pending = none by rw [hrec])), ?_⟩
        exact hq _ ⟨ha.size, by simp [hnd], ha.get⟩
      · have hc : Cx w.heap.size W2 (W2.putObj (w.heap.size + 1) (.loop { rec .done (some c) with state := .exhausted })) := .put _ (by omega) hl rfl
        refine ⟨some c, _, (run_endLoop (P := P) hl (by rw [hrec]; simp)).trans (congrArg (fun x => Result.ok x _) (show (rec .done (some c)).pending = some c by rw [hrec])), ?_⟩
        exact hstop w.heap.size c _ (Nat.le_refl _) ((World.putObj_heap_other (by omega)).trans hk) (hIx _ _ _ hi hc) hno _ ⟨ha.size, by simp [hnd], ha.get⟩

/-! ### Functions that hold such a statement, and iterators -/
section
variable {P : Program} {n : Nat} {σ : Store} {w : World} {fn : Func} {R : Ending → World → Prop}
theorem enterM {f : FuncId} {fn : Func} {c : Code} {vs : List Value} {R : Ending → World → Prop} (hf : P.funcs[f]? = some fn) (hb : fn.body = some c) {n : Nat} (hn : fn.ntmps = n) (hl : Nat.ble vs.length n = true) (hR : ∀ w', ¬ R .outgrown w')
    (h : TI P none ⟨n, []⟩ c (bodyPostM Fence.wide 0 P fn R) (argStore 0 vs) w) : Cl P f vs.toArray w R := by
  refine Cl.of (callsIn_wide (n := 0) |>.1 (callsIn_of_wp_marks hf hb trivial (h (fun _ w' h => hR w' h) _ ⟨?_, rfl, fun i v hv => ?_⟩)))
  · have := Nat.le_of_ble_eq_true hl
    simp [hn]; omega
  · obtain ⟨_, h2⟩ := look_argStore vs 0 i v hv
    rw [Nat.sub_zero] at h2
    have hi := (List.getElem?_eq_some_iff.1 h2).1
    simp only [Array.getD_eq_getD_getElem?]
    rw [Array.getElem?_append_left (by simpa using hi)]
    simp [h2]
theorem leavesM {tmps : Array Value} {v : Value} (hr : (results fn tmps).run P w = .ok v w) (h : R (.returned v) w) : LeavesInM Fence.wide 0 P fn tmps R [] .returning w := ⟨v, hr, h⟩
theorem leavesM_mark {tmps : Array Value} {v : Value} {D : Nat} (hD : w.heap[D]? = some (.deferred (some []))) (hr : (results fn tmps).run P (w.putObj D (.deferred none)) = .ok v (w.putObj D (.deferred none))) (h : R (.returned v) (w.putObj D (.deferred none))) :
    LeavesInM Fence.wide 0 P fn tmps R [markOf D] .returning w := ⟨by simp, .inl ⟨_, _, rfl, run_takeDeferred hD, leavesM hr h⟩⟩
theorem G.retM0 (hr : fn.results = #[]) (h : R (.returned (.tuple #[])) w) : G ⟨n, []⟩ .ret (bodyPostM Fence.wide 0 P fn R) σ w := by
  unfold G
  intro a ha
  have hd := ha.nodef
  simp only [bodyPostM, hd]
  exact leavesM (results_none hr _ _ _) h
theorem G.endM0 (hr : fn.results = #[]) (h : R (.returned (.tuple #[])) w) : G ⟨n, []⟩ .normal (bodyPostM Fence.wide 0 P fn R) σ w := by
  unfold G
  intro a ha
  have hd := ha.nodef
  simp only [bodyPostM, hd]
  exact leavesM (results_none hr _ _ _) h
theorem G.retK1 {r D : Nat} {v : Value} (hr : fn.results = #[.tmp r]) (hv : look1 σ r = some v) (hD : w.heap[D]? = some (.deferred (some []))) (h : R (.returned v) (w.putObj D (.deferred none))) : G ⟨n, [markOf D]⟩ .ret (bodyPostM Fence.wide 0 P fn R) σ w := by
  unfold G
  intro a ha
  have hd := ha.nodef
  simp only [bodyPostM, hd]
  exact leavesM_mark hD (results_tmp hr _ _ _) (by rw [ha.get r v hv]; exact h)
/-- a mark's block is shut: cells stand -/
theorem Cx.shut {B D : Nat} {w : World} (hB : B ≤ D) (hD : w.heap[D]? = some (.deferred (some []))) : Cx B w (w.putObj D (.deferred none)) := .put _ hB hD rfl
end
attribute [irreducible] TI TLI

end Go.Eng

namespace Go.Proofs.YthlbihbchobllaaGreat
open Go Go.Eng Go.Proofs Go.NatM Go.RowKit

theorem ivc_noV (l : List IV) : (l.flatMap ivc).all noU64 = true := by
  have := ivc_all l [] rfl
  rwa [List.append_nil] at this
/-- the first i of a list are Z, in least form, of at most K words -/
def LsK (i : Nat) (l : List IV) (Z : Nat → Int) (K : Nat) (H : Array Obj) : Prop := ∀ q, q < i → LI H (Z q) (l.getD q default) ∧ (l.getD q default).m.n ≤ K
def dpLK (i : Nat) (l : List IV) (Z : Nat → Int) (K : Nat) : DP := ⟨LsK i l Z K, fun _ => False, fun _ _ _ h => h.elim, fun _ _ hd h q hq => ⟨(h q hq).1.de hd, (h q hq).2⟩⟩
section
variable {S : Nat → Prop} {w0 w w' : World} {L : List VB} {D : List DP}
theorem Fr.addLK (h : Fr w0 w L D S) {i : Nat} {l : List IV} {Z : Nat → Int} {K : Nat} (k : LsK i l Z K w.heap) : Fr w0 w L (dpLK i l Z K :: D) S := h.add _ k fun _ _ h => h
theorem Fr.lk (h : Fr w0 w L D S) {i : Nat} {l : List IV} {Z : Nat → Int} {K : Nat} (hm : dpLK i l Z K ∈ D) : LsK i l Z K w.heap := h.data _ hm
end
attribute [irreducible] dpLK

theorem LsK.set {H : Array Obj} {l : List IV} {Z : Nat → Int} {i K : Nat} {u : IV} (h : LsK i l Z K H) (hi : i < l.length) (hu : LI H (Z i) u) (hn : u.m.n ≤ K) : LsK (i + 1) (l.set i u) Z K H := by
  intro q hq
  by_cases e : q = i
  · subst e
    have e1 : (l.set q u).getD q default = u := by simp [List.getD, hi]
    rw [e1]; exact ⟨hu, hn⟩
  · have e1 : (l.set i u).getD q default = l.getD q default := by simp [List.getD, List.getElem?_set_ne (fun h => e h.symm)]
    rw [e1]; exact h q (by omega)
/-- a list in memory: the numbers Z in least form, of at most K words each -/
structure LL (H : Array Obj) (A : Option Addr) (n k : Nat) (l : List IV) (Z : Nat → Int) (K : Nat) : Prop where
  s : Sm 2 ivc H H.size A n k l
  g : LsK n l Z K H
theorem LL.ext {w w' : World} {A : Option Addr} {n k K : Nat} {l : List IV} {Z : Nat → Int} (hE : Ext w w') (h : LL w.heap A n k l Z K) : LL w'.heap A n k l Z K := ⟨(h.s.ext hE).size, fun q hq => ⟨(h.g q hq).1.ext hE, (h.g q hq).2⟩⟩
theorem LL.de {H H' : Array Obj} {A : Option Addr} {n k K : Nat} {l : List IV} {Z : Nat → Int} (hd : DE (fpA A n) H H') (h : LL H A n k l Z K) : LL H' A n k l Z K := ⟨Sm.deS (fun _ h => h) hd h.s, fun q hq => ⟨(h.g q hq).1.de hd, (h.g q hq).2⟩⟩
/-- the list lies in a block that is not older than w -/
def LF (w : World) (A : Option Addr) (n : Nat) : Prop := n = 0 ∨ ∃ b, A = some ⟨b, 0, none⟩ ∧ w.heap.size ≤ b
def RetL (w : World) (n : Nat) (Z : Nat → Int) (K : Nat) (e : Ending) (w' : World) : Prop := ∃ A k l, e = .returned (.slice A n k) ∧ LL w'.heap A n k l Z K ∧ Ext w w' ∧ LF w A n

set_option maxRecDepth 100000 in
set_option maxHeartbeats 8000000 in
theorem each_ok (w : World) (A : Option Addr) (n k : Nat) (l : List IV) (hs : Sm 2 ivc w.heap w.heap.size A n k l) (hn : n ≤ 1048576) (g : FuncId) (cap : List Value) (hg : IsFn Tryz.prog g) (Z : Nat → Int) (K : Nat)
    (hG : ∀ i y (w1 : World), l[i]? = some y → Ext w w1 → Cl Tryz.prog g ([Value.agg (ivc y).toArray] ++ cap).toArray w1 (RetZ w1 (Z i) K)) :
    Cl Tryz.prog 57 #[.slice A n k, .func (.func g) #[] cap.toArray] w (RetL w n Z K) := by
  have hlen := hs.len
  refine enter Tryz.func57 rfl rfl rfl ?_
  have hF := Fr.refl w
  repeat' (first | (refine TL.isOp ?_; first | (apply TL.ev; (case hd => rfl); (case h => (first | exact ev_simple rfl | exact ev_len rfl))) | (refine TL.makeFr hF ivc ⟨false, ⟨none, 0, 0, []⟩⟩ (d := 10) rfl rfl rfl (Nat.le_refl _) (by omega) rfl rfl rfl ?_; clear hF; intro w10 b10 hF)) | (refine T.is ?_; first | refine T.seq ?_ | refine T.region ?_ | refine T.block ?_) | (refine G.is ?_; first | refine G.next ?_) | refine TL.nil ?_)
  refine T.loop (α := Nat × List IV) (fun x => [(1, .func (.func g) #[] cap.toArray), (5, .slice (some ⟨b10, 0, none⟩) n n), (11, .slice A n k), (12, .int .i64 (n : Int)), (13, .int .i64 (x.1 : Int))])
    (fun x w' => x.1 ≤ n ∧ x.2.length = n ∧ Fr w w' [⟨b10, 43, x.2.flatMap ivc⟩] [dpLK x.1 x.2 Z K])
    (fun x => n - x.1) (0, List.replicate n ⟨false, ⟨none, 0, 0, []⟩⟩) (by repeat (first | exact Sub.nil _ | refine Sub.cons rfl ?_ | refine Sub.cons' rfl (int_congr (by omega)) ?_)) ⟨Nat.zero_le _, List.length_replicate .., Fr.addLK hF (fun q hq => absurd hq (Nat.not_lt_zero _))⟩ ?_
  clear hF
  rintro ⟨i, zl⟩ w2 ⟨hi, hzl, hF⟩
  dsimp only at hi hzl hF ⊢
  rcases Nat.lt_or_ge i n with hin | hin
  · have hy : l[i]? = some (l.getD i default) := by simp [List.getD, show i < l.length by omega]
    obtain ⟨⟨yneg, ⟨yA, yn, yc, yl⟩⟩, ey⟩ : ∃ y, l.getD i default = y := ⟨_, rfl⟩
    rw [ey] at hy
    repeat' (first | (refine TL.isOp ?_; first | (refine TL.isBin ?_; refine TL.cmpG rfl rfl rfl rfl (fun hc => ?_) (fun hc => ?_) <;> (try (first | (exfalso; omega) | exact absurd rfl hc))) | (apply TL.ev; (case hd => rfl); (case h => (first | exact ev_simple rfl | (apply Ev.isBin; first | exact ev_arN rfl rfl rfl (by omega)) | (apply Ev.isLoad; first | exact ev_loadAFr hF rfl (by refine ⟨?_, ?_⟩; (focus (repeat (first | exact InV.head | apply InV.tail))); rfl) | exact ev_loadM rfl (hs.ext hF.ext) hy) | exact ev_indexM rfl rfl hin (hs.ext hF.ext).some | exact ev_indexM rfl rfl hin (.inr rfl)))) | (refine TL.storeAFr hF rfl rfl rfl rfl (by refine ⟨?_, ?_⟩; (focus (repeat (first | apply SetV.head | apply SetV.tail))); rfl) rfl ?_; clear hF; intro ws hF) | (refine TL.callV (vs := [.agg (ivc ⟨yneg, ⟨yA, yn, yc, yl⟩⟩).toArray]) (cap := cap) hg rfl rfl rfl ?_; refine (hG i _ _ hy hF.ext).mono ?_; rintro _ wf ⟨x, rfl, hLx, hE, hKx⟩; replace hF := Fr.addLI (hF.exts hE) hLx; clear hE hLx; refine Back.mk ?_) | (refine TL.storeAtFr hF (f := ivc) x rfl rfl rfl rfl (fun _ => rfl) (by rw [hzl]; exact hin) (ivc_noV zl) (by repeat (first | apply SetV.head | apply SetV.tail)) ?_; clear hF; intro ws hF) | (refine TL.allocFr hF rfl rfl ?_; clear hF; intro wa ba hF)) | (refine T.is ?_; first | refine T.seq ?_ | refine T.region ?_ | refine T.block ?_ | refine T.cond_t rfl ?_ | refine T.skip ?_) | (refine G.is ?_; first | refine G.next ?_ | refine G.blockN ?_) | refine TL.nil ?_)
    have hk := (Fr.lk hF (i := i) (l := zl) (by repeat (first | exact memH | apply memT))).set (by omega) (Fr.li hF (x := x) (by repeat (first | exact memH | apply memT))) hKx
    exact G.again (i + 1, zl.set i x) (by repeat (first | exact Sub.nil _ | refine Sub.cons rfl ?_ | refine Sub.cons' rfl (int_congr (by omega)) ?_)) ⟨by dsimp only; omega, by rw [List.length_set]; exact hzl, Fr.addLK (hF.weak (L := [⟨b10, 43, (zl.set i x).flatMap ivc⟩]) (D := []) (List.Sublist.cons _ (List.Sublist.refl _)) allN) hk⟩ (by dsimp only; omega)
  · obtain rfl : i = n := by omega
    repeat' (first | (refine TL.isOp ?_; first | (refine TL.isBin ?_; refine TL.cmpG rfl rfl rfl rfl (fun hc => ?_) (fun hc => ?_) <;> (try (first | (exfalso; omega) | exact absurd rfl hc))) | (apply TL.ev; (case hd => rfl); (case h => (first | exact ev_simple rfl)))) | (refine T.is ?_; first | refine T.seq ?_ | refine T.region ?_ | refine T.cond_f rfl ?_ | refine T.exit ?_ | refine T.ret ?_) | (refine G.is ?_; first | refine G.next ?_ | refine G.blockE ?_ | refine G.thenE ?_) | refine TL.nil ?_)
    refine G.ret1 rfl rfl ⟨_, _, zl, rfl, ⟨vr_sm (zs := []) (by omega) (fun _ _ => rfl) (by rw [List.append_nil]; exact hF.var .head) hzl (Nat.le_refl _) (hF.var .head).lt, Fr.lk hF (by repeat (first | exact memH | apply memT))⟩, hF.ext, .inr ⟨b10, rfl, ?_⟩⟩
    rcases hF.lo .head with h | h
    · exact h
    · exact h.elim
end Go.Proofs.YthlbihbchobllaaGreat

namespace Go.N16

def U64 (l : List Nat) : Prop := ∀ x ∈ l, x < 65536
def val : List Nat → Nat
  | [] => 0
  | x :: l => x + 65536 * val l
/-- how many words up to the highest that is not 0 -/
def sz : List Nat → Nat
  | [] => 0
  | x :: l => if sz l = 0 ∧ x = 0 then 0 else sz l + 1
/-- the words of a number, without zeros at the high end -/
def dig (n : Nat) : List Nat := if h : n = 0 then [] else (n % 65536) :: dig (n / 65536)
termination_by n
decreasing_by exact Nat.div_lt_self (by omega) (by omega)

theorem U64.nil : U64 [] := fun x h => by cases h
theorem U64.cons {x : Nat} {l : List Nat} (h : x < 65536) (hl : U64 l) : U64 (x :: l) := fun y hy => by
  rcases List.mem_cons.1 hy with rfl | hy
  · exact h
  · exact hl y hy
theorem U64.head {x : Nat} {l : List Nat} (h : U64 (x :: l)) : x < 65536 := h x (by simp)
theorem U64.tail {x : Nat} {l : List Nat} (h : U64 (x :: l)) : U64 l := fun y hy => h y (by simp [hy])
theorem U64.append {l r : List Nat} (h : U64 l) (k : U64 r) : U64 (l ++ r) := fun y hy => (List.mem_append.1 hy).elim (h y) (k y)
theorem U64.take {l : List Nat} (h : U64 l) (n : Nat) : U64 (l.take n) := fun y hy => h y (List.mem_of_mem_take hy)
theorem U64.drop {l : List Nat} (h : U64 l) (n : Nat) : U64 (l.drop n) := fun y hy => h y (List.mem_of_mem_drop hy)
theorem U64.replicate (n : Nat) : U64 (List.replicate n 0) := fun y hy => by rw [(List.mem_replicate.1 hy).2]; omega
theorem U64.one {x : Nat} (h : x < 65536) : U64 [x] := U64.cons h U64.nil
theorem U64.getD {l : List Nat} (h : U64 l) (k : Nat) : l.getD k 0 < 65536 := by
  rcases Nat.lt_or_ge k l.length with hk | hk
  · have : l.getD k 0 = l[k] := by simp [List.getD, hk]
    rw [this]; exact h _ (List.getElem_mem hk)
  · simp [List.getD, List.getElem?_eq_none hk]
theorem U64.set {l : List Nat} (h : U64 l) (k x : Nat) (hx : x < 65536) : U64 (l.set k x) := fun y hy => by
  rcases List.mem_or_eq_of_mem_set hy with hy | rfl
  · exact h y hy
  · exact hx

theorem getD_ge {l : List Nat} {j : Nat} (h : l.length ≤ j) : l.getD j 0 = 0 := by simp [List.getD, List.getElem?_eq_none h]
theorem sz_le (l : List Nat) : sz l ≤ l.length := by
  induction l with
  | nil => simp [sz]
  | cons x l ih => simp only [sz, List.length_cons]; split <;> omega
theorem sz_eq (l : List Nat) (n : Nat) (h1 : n ≤ l.length) (h2 : ∀ j, n ≤ j → l.getD j 0 = 0) (h3 : n = 0 ∨ l.getD (n - 1) 0 ≠ 0) : sz l = n := by
  induction l generalizing n with
  | nil => simp at h1; simp [sz, h1]
  | cons x l ih =>
    rcases n with _ | n
    · have hx : x = 0 := by simpa using h2 0 (by omega)
      have : sz l = 0 := ih 0 (by omega) (fun j _ => by simpa using h2 (j + 1) (by omega)) (.inl rfl)
      simp [sz, this, hx]
    · have hl : sz l = n := by
        refine ih n (by simpa using h1) (fun j hj => by simpa using h2 (j + 1) (by omega)) ?_
        rcases n with _ | n
        · exact .inl rfl
        · right; simpa using h3.resolve_left (by omega)
      simp only [sz]
      rw [if_neg]
      · omega
      · rintro ⟨h0, hx⟩
        have : n = 0 := by omega
        subst this
        simp [hx] at h3
theorem sz_top (l : List Nat) : sz l = 0 ∨ l.getD (sz l - 1) 0 ≠ 0 := by
  induction l with
  | nil => simp [sz]
  | cons x l ih =>
    simp only [sz]
    split
    · exact .inl rfl
    · rename_i h
      right
      rcases Nat.eq_zero_or_pos (sz l) with h0 | h0
      · have hx : x ≠ 0 := fun hx => h ⟨h0, hx⟩
        simp [h0, hx]
      · rcases ih with h1 | h1
        · omega
        · rw [show sz l + 1 - 1 = (sz l - 1) + 1 by omega]; simpa using h1
theorem sz_zero (l : List Nat) (j : Nat) (h : sz l ≤ j) : l.getD j 0 = 0 := by
  induction l generalizing j with
  | nil => simp
  | cons x l ih =>
    simp only [sz] at h
    split at h
    · rename_i h0
      rcases j with _ | j
      · simpa using h0.2
      · simpa using ih j (by omega)
    · rcases j with _ | j
      · omega
      · simpa using ih j (by omega)

theorem val_append (l r : List Nat) : val (l ++ r) = val l + 65536 ^ l.length * val r := by
  induction l with
  | nil => simp [val]
  | cons x l ih => simp only [List.cons_append, val, ih, List.length_cons, Nat.pow_succ, Nat.mul_add, Nat.add_assoc]; congr 2; rw [← Nat.mul_assoc, Nat.mul_comm 65536]
theorem val_one (x : Nat) : val [x] = x := by simp [val]
theorem val_snoc (l : List Nat) (x : Nat) : val (l ++ [x]) = val l + 65536 ^ l.length * x := by rw [val_append, val_one]
theorem val_zeros (n : Nat) : val (List.replicate n 0) = 0 := by
  induction n with
  | zero => rfl
  | succ n ih => simp [List.replicate_succ, val, ih]
theorem val_take_succ (l : List Nat) (i : Nat) : val (l.take (i + 1)) = val (l.take i) + 65536 ^ i * l.getD i 0 := by
  rcases Nat.lt_or_ge i l.length with h | h
  · rw [List.take_succ_eq_append_getElem h, val_snoc]
    simp [List.getD, h, Nat.min_eq_left (Nat.le_of_lt h)]
  · rw [List.take_of_length_le h, List.take_of_length_le (by omega), getD_ge h]; simp
theorem val_lt {l : List Nat} (h : U64 l) : val l < 65536 ^ l.length := by
  induction l with
  | nil => simp [val]
  | cons x l ih =>
    have h1 := ih h.tail
    have h2 := h.head
    simp only [val, List.length_cons, Nat.pow_succ]
    have h3 : val l + 1 ≤ 65536 ^ l.length := h1
    have h4 := Nat.mul_le_mul_left 65536 h3
    rw [Nat.mul_comm (65536 ^ l.length)]
    omega
theorem val_sz (l : List Nat) : val (l.take (sz l)) = val l := by
  induction l with
  | nil => rfl
  | cons x l ih =>
    simp only [sz]
    split
    · rename_i h
      rw [h.1] at ih
      simp only [List.take_zero, val] at ih ⊢
      rw [← ih, h.2]
    · simp only [List.take_succ_cons, val, ih]
theorem val_take_ge (l : List Nat) (k : Nat) (h : sz l ≤ k) : val (l.take k) = val l := by
  have e : l = l.take k ++ l.drop k := (List.take_append_drop k l).symm
  have h0 : val (l.drop k) = 0 := by
    have : l.drop k = List.replicate (l.drop k).length 0 := by
      apply List.ext_getElem
      · simp
      · intro i h1 h2
        have hz := sz_zero l (k + i) (by omega)
        simp only [List.getElem_drop, List.getElem_replicate]
        rw [List.length_drop] at h1
        have hki : k + i < l.length := by omega
        have : l.getD (k + i) 0 = l[k + i] := by simp [List.getD, hki]
        omega
    rw [this, val_zeros]
  conv => rhs; rw [e, val_append, h0]
  simp

theorem dig_zero : dig 0 = [] := by rw [dig]; simp
theorem dig_pos {n : Nat} (h : n ≠ 0) : dig n = (n % 65536) :: dig (n / 65536) := by rw [dig]; simp [h]
theorem val_dig (n : Nat) : val (dig n) = n := by
  induction n using Nat.strongRecOn with
  | _ n ih =>
    rcases Nat.eq_zero_or_pos n with rfl | h
    · rw [dig_zero]; rfl
    · rw [dig_pos (by omega), val, ih _ (Nat.div_lt_self h (by omega))]; omega
theorem U64_dig (n : Nat) : U64 (dig n) := by
  induction n using Nat.strongRecOn with
  | _ n ih =>
    rcases Nat.eq_zero_or_pos n with rfl | h
    · rw [dig_zero]; exact U64.nil
    · rw [dig_pos (by omega)]; exact U64.cons (Nat.mod_lt _ (by omega)) (ih _ (Nat.div_lt_self h (by omega)))
/-- the words up to the highest that is not 0 are the digits of the number -/
theorem take_sz {l : List Nat} (h : U64 l) : l.take (sz l) = dig (val l) := by
  induction l with
  | nil => simp [sz, val, dig_zero]
  | cons x l ih =>
    have hx := h.head
    have ih' := ih h.tail
    simp only [sz, val]
    split
    · rename_i h0
      rw [h0.1] at ih'
      have hv : val l = 0 := by rw [← val_sz l, h0.1]; rfl
      rw [h0.2, hv]; simp [dig_zero]
    · rename_i h0
      have hne : x + 65536 * val l ≠ 0 := by
        intro he
        have hx0 : x = 0 := by omega
        have hv : val l = 0 := by omega
        apply h0
        refine ⟨?_, hx0⟩
        rcases sz_top l with h1 | h1
        · exact h1
        · rw [hv, dig_zero] at ih'
          have := congrArg List.length ih'
          rw [List.length_take, List.length_nil] at this
          have := sz_le l
          omega
      rw [dig_pos hne, List.take_succ_cons, ih']
      congr 1
      · omega
      · congr 1; omega
theorem dig_length {l : List Nat} (h : U64 l) : (dig (val l)).length = sz l := by rw [← take_sz h, List.length_take]; have := sz_le l; omega
theorem sz_dig (n : Nat) : sz (dig n) = (dig n).length := by
  have h := dig_length (U64_dig n)
  rw [val_dig] at h
  exact h.symm
theorem dig_length_le {n k : Nat} (h : n < 65536 ^ k) : (dig n).length ≤ k := by
  induction k generalizing n with
  | zero => have : n = 0 := by simpa using h
            rw [this, dig_zero]; simp
  | succ k ih =>
    rcases Nat.eq_zero_or_pos n with rfl | h0
    · rw [dig_zero]; simp
    · rw [dig_pos (by omega), List.length_cons]
      have := ih (n := n / 65536) (by rw [Nat.div_lt_iff_lt_mul (by omega)]; rw [Nat.pow_succ] at h; exact h)
      omega
/-- a list of so many words more is not below -/
theorem pow_le_val {l : List Nat} (h : sz l ≠ 0) : 65536 ^ (sz l - 1) ≤ val l := by
  rw [← val_sz l]
  obtain ⟨k, hk⟩ : ∃ k, sz l = k + 1 := ⟨sz l - 1, by omega⟩
  have ht := (sz_top l).resolve_left h
  rw [hk, val_take_succ]
  rw [hk] at ht
  simp only [Nat.add_sub_cancel] at ht ⊢
  have : 65536 ^ k * 1 ≤ 65536 ^ k * l.getD k 0 := Nat.mul_le_mul_left _ (by omega)
  omega
theorem val_lt_sz {l : List Nat} (h : U64 l) : val l < 65536 ^ sz l := by
  have := val_lt (h.take (sz l))
  rw [val_sz, List.length_take, Nat.min_eq_left (sz_le l)] at this
  exact this
theorem lt_of_sz_lt {l r : List Nat} (hl : U64 l) (h : sz l < sz r) : val l < val r :=
  Nat.lt_of_lt_of_le (val_lt_sz hl) (Nat.le_trans (Nat.pow_le_pow_right (by omega) (by omega)) (pow_le_val (by omega)))
/-- a new word behind what is done, before zeros -/
theorem set_zeros (D : List Nat) (r x : Nat) : (D ++ List.replicate (r + 1) 0).set D.length x = (D ++ [x]) ++ List.replicate r 0 := by
  rw [List.set_append_right _ _ (Nat.le_refl _), Nat.sub_self, List.replicate_succ, List.set_cons_zero, List.append_assoc]; rfl
theorem val_ext {a b : List Nat} (h : ∀ j, a.getD j 0 = b.getD j 0) : val a = val b := by
  induction a generalizing b with
  | nil =>
    induction b with
    | nil => rfl
    | cons y b ih =>
      have h0 := h 0
      have := ih fun j => by simpa using h (j + 1)
      simp at h0
      simp [val, ← h0, ← this]
  | cons x a ih =>
    cases b with
    | nil =>
      have h0 := h 0
      have := ih (b := []) fun j => by simpa using h (j + 1)
      simp at h0
      simp [val, h0, this]
    | cons y b =>
      have h0 := h 0
      have := ih (b := b) fun j => by simpa using h (j + 1)
      simp at h0
      simp [val, h0, this]
theorem getD_drop (l : List Nat) (k j : Nat) : (l.drop k).getD j 0 = l.getD (k + j) 0 := by simp [List.getD, List.getElem?_drop]
theorem val_split (l : List Nat) (k : Nat) : val l = val (l.take k) + 65536 ^ k * val (l.drop k) := by
  induction k generalizing l with
  | zero => simp [val]
  | succ k ih =>
    cases l with
    | nil => simp [val]
    | cons x l =>
      have := ih l
      simp only [List.take_succ_cons, List.drop_succ_cons, val, this, Nat.pow_succ]
      rw [Nat.mul_add, Nat.add_assoc, Nat.mul_comm (65536 ^ k) 65536, Nat.mul_assoc]
theorem val_drop (l : List Nat) (k : Nat) : val (l.drop k) = l.getD k 0 + 65536 * val (l.drop (k + 1)) := by
  rcases Nat.lt_or_ge k l.length with h | h
  · rw [List.drop_eq_getElem_cons h, val]; simp [List.getD, h]
  · rw [List.drop_of_length_le h, List.drop_of_length_le (by omega), getD_ge h]; rfl
theorem U64.take_lt {l : List Nat} (h : U64 l) (k : Nat) : val (l.take k) < 65536 ^ k :=
  Nat.lt_of_lt_of_le (val_lt (h.take k)) (Nat.pow_le_pow_right (by omega) (by rw [List.length_take]; omega))
/-- the highest place at which two lists differ decides -/
theorem val_lt_of {a b : List Nat} (ha : U64 a) (k : Nat) (h1 : ∀ j, k < j → a.getD j 0 = b.getD j 0) (h2 : a.getD k 0 < b.getD k 0) : val a < val b := by
  have e : val (a.drop (k + 1)) = val (b.drop (k + 1)) := val_ext fun j => by rw [getD_drop, getD_drop]; exact h1 _ (by omega)
  have l1 := ha.take_lt k
  rw [val_split a k, val_split b k, val_drop a k, val_drop b k, e]
  generalize val (b.drop (k + 1)) = q
  generalize 65536 ^ k = p at l1 ⊢
  have : p * (a.getD k 0 + 65536 * q) + p ≤ p * (b.getD k 0 + 65536 * q) := by
    rw [← Nat.mul_succ]
    exact Nat.mul_le_mul_left _ (by omega)
  omega
def cmp3 (m n : Nat) : Int := if m < n then -1 else if n < m then 1 else 0
theorem add_step {p vD va vb s c' x y c : Nat} (h : vD + p * c = va + vb) (e : s + 65536 * c' = x + y + c) :
    vD + p * s + p * 65536 * c' = (va + p * x) + (vb + p * y) := by
  have e1 : p * (s + 65536 * c') = p * (x + y + c) := by rw [e]
  rw [Nat.mul_add, Nat.mul_add, Nat.mul_add, ← Nat.mul_assoc] at e1
  omega
theorem sub_step {p vD va vb s c' x y c : Nat} (h : vD + vb = va + p * c) (e : s + y + c = x + 65536 * c') :
    (vD + p * s) + (vb + p * y) = (va + p * x) + p * 65536 * c' := by
  have e1 : p * (s + y + c) = p * (x + 65536 * c') := by rw [e]
  rw [Nat.mul_add, Nat.mul_add, Nat.mul_add, ← Nat.mul_assoc] at e1
  omega
end Go.N16

namespace Go.NatM

end Go.NatM

namespace Go.NatM
open Go

end Go.NatM

namespace Go.Proofs.YthlbihbchobllaaGreat
open Go Go.Eng Go.Proofs Go.NatM Go.RowKit

/-- a new list of small digits, of at most K -/
def RetI (w : World) (L : List Nat) (K : Nat) (e : Ending) (w' : World) : Prop := ∃ A n c, e = .returned (.slice A n c) ∧ Ow n64v w'.heap w.heap.size 3 A n c L ∧ Ext w w' ∧ n ≤ K
theorem RetI.mk {w w' : World} {L : List Nat} {A : Option Addr} {n c K : Nat} (h : Ow n64v w'.heap w.heap.size 3 A n c L) (he : Ext w w') (hk : n ≤ K) : RetI w L K (.returned (.slice A n c)) w' := ⟨A, n, c, rfl, h, he, hk⟩

end Go.Proofs.YthlbihbchobllaaGreat

namespace Go.Proofs.YthlbihbchobllaaGreat
open Go Go.Eng Go.Proofs Go.NatM Go.RowKit

end Go.Proofs.YthlbihbchobllaaGreat

namespace Go.Proofs.YthlbihbchobllaaGreat
open Go Go.Eng Go.Proofs Go.NatM Go.RowKit

/-- the sign of an integer -/
def sig (z : Int) : Int := if z < 0 then -1 else if z = 0 then 0 else 1
theorem ival_abs (x : IV) : (ival x).natAbs = val x.m.l := sgn_abs _ _
end Go.Proofs.YthlbihbchobllaaGreat

namespace Go.Proofs.YthlbihbchobllaaGreat
open Go Go.Eng Go.Proofs Go.NatM Go.RowKit

set_option maxRecDepth 100000 in
set_option maxHeartbeats 8000000 in
theorem turn1_ok (w : World) (r c i j K : Nat) (A : Option Addr) (k : Nat) (l : List IV) (pa : Nat) (gx : GM w.heap ⟨r, c, A, r * c, k, l⟩ r c K) (hK : K ≤ 35184372088832) (hpa : Vr w.heap pa 24 (mvc ⟨r, c, A, r * c, k, l⟩)) (hi : i < c) (hj : j < r) :
    Cl Tryz.prog 46 #[.int .i64 (i : Int), .int .i64 (j : Int), .pointer (some ⟨pa, 0, none⟩)] w (RetZ w (ival (l.getD (j * c + i) default)) K) := by
  have hm := mul64 gx.sh.r64 gx.sh.c64
  have hs := gx.s
  have hlen := hs.len
  dsimp only at hs hlen
  have hp := place_lt hj hi
  have y1 : l[j * c + i]? = some (l.getD (j * c + i) default) := by simp [List.getD, show j * c + i < l.length by omega]
  obtain ⟨g1, n1⟩ := gx.g _ (List.mem_of_getElem? y1)
  generalize l.getD (j * c + i) default = x1 at *
  refine enter Tryz.func46 rfl rfl rfl ?_
  have hF := Fr.refl w
  repeat' (first | (refine TL.isOp ?_; first | (refine TL.isCall ?_; refine TL.call rfl rfl ?_; first | (refine (zleast_ok _ x1 (g1.ext hF.ext) (by omega)).mono ?_; rintro _ wm ⟨s', rfl, hLm, hE, hKm⟩; replace hF := Fr.addLI (hF.exts hE) hLm; clear hE; refine Back.mk ?_)) | (apply TL.ev; (case hd => rfl); (case h => (first | exact ev_simple rfl | (apply Ev.isBin; first | exact ev_arN rfl rfl rfl (by omega)) | (apply Ev.isLoad; first | exact ev_loadV rfl (hpa.ext hF.ext) rfl | exact ev_loadM rfl (hs.ext hF.ext) y1) | exact ev_fieldAddr rfl | exact ev_indexM rfl rfl hp (hs.ext hF.ext).some))) | (refine TL.storeAFr hF rfl rfl rfl rfl (by refine ⟨?_, ?_⟩; (focus (repeat (first | apply SetV.head | apply SetV.tail))); rfl) rfl ?_; clear hF; intro ws hF) | (refine TL.allocFr hF rfl rfl ?_; clear hF; intro wa ba hF)) | (refine T.is ?_; first | refine T.seq ?_ | refine T.region ?_ | refine T.ret ?_) | (refine G.is ?_; first | refine G.next ?_) | refine TL.nil ?_)
  exact G.retC1 rfl rfl (held_agg (hF.var (by repeat (first | exact InV.head | apply InV.tail))) rfl) ⟨s', rfl, Fr.li hF (by repeat (first | exact memH | apply memT)), hF.ext, by omega⟩
set_option maxRecDepth 100000 in
set_option maxHeartbeats 8000000 in
theorem mturn_ok (w : World) (x : MV) (r c K : Nat) (gx : GM w.heap x r c K) (hK : K ≤ 35184372088832) :
    Cl Tryz.prog 22 #[.agg (mvc x).toArray] w (RetME w c r (fun i j => ent x c j i) K) := by
  obtain ⟨xr, xc, A, n, k, l⟩ := x
  obtain ⟨h1, h2, h3, h4, h5⟩ := id gx.sh
  dsimp only at h1 h2 h5
  subst h1 h2 h5
  refine enter Tryz.func22 rfl rfl rfl ?_
  have hF := Fr.refl w
  repeat' (first | (refine TL.isOp ?_; first | (refine TL.isCall ?_; refine TL.call rfl rfl ?_; first | (refine (chk_ok _ _ r c gx.sh).mono ?_; rintro _ wc ⟨rfl, hE⟩; replace hF := hF.exts hE; clear hE; refine Back.mk ?_) | (refine (build_ok _ c r h4 h3 46 [.pointer (some ⟨b1, 0, none⟩)] inferInstance (fun i j => ival (l.getD (j * c + i) default)) K (fun i j w1 hi hj hE1 => turn1_ok w1 r c i j K A k l b1 (gx.ext (hF.exts hE1).ext) hK ((hF.var (by repeat (first | exact InV.head | apply InV.tail))).ext hE1) hi hj)).mono ?_; rintro _ wp ⟨z, rfl, hLp, hE, hf⟩; have hsz := hF.ext.size; replace hF := Fr.addLM hF hE hLp hf; clear hE; refine Back.mk ?_)) | (refine TL.isBin ?_; refine TL.cmpG rfl rfl rfl rfl (fun hc => ?_) (fun hc => ?_) <;> (try (first | (exfalso; omega) | exact absurd rfl hc))) | (apply TL.ev; (case hd => rfl); (case h => (first | exact ev_simple rfl | (apply Ev.isLoad; first | exact ev_loadFr hF rfl (by refine ⟨?_, ?_⟩; (focus (repeat (first | exact InV.head | apply InV.tail))); rfl) | exact ev_loadAFr hF rfl (by refine ⟨?_, ?_⟩; (focus (repeat (first | exact InV.head | apply InV.tail))); rfl)) | exact ev_fieldAddr rfl | exact ev_makeFunc rfl))) | (refine TL.storeAFr hF rfl rfl rfl rfl (by refine ⟨?_, ?_⟩; (focus (repeat (first | apply SetV.head | apply SetV.tail))); rfl) rfl ?_; clear hF; intro ws hF) | (refine TL.boxAFr hF (d := 1) (cs := mvc ⟨r, c, A, r * c, k, l⟩) rfl rfl ?_; clear hF; intro w1 b1 hF) | (refine TL.allocFr hF (d := 2) rfl rfl ?_; clear hF; intro w2 b2 hF)) | (refine T.is ?_; first | refine T.seq ?_ | refine T.region ?_ | refine T.cond_f rfl ?_ | refine T.ret ?_ | refine T.skip ?_) | (refine G.is ?_; first | refine G.next ?_) | refine TL.nil ?_)
  exact G.retC2 rfl rfl rfl (held_agg (hF.var (by repeat (first | exact InV.head | apply InV.tail))) rfl) ⟨z, rfl, Fr.lm hF (by repeat (first | exact memH | apply memT)), hF.ext, hf.mono hsz⟩
/-- an integer and an error's number 0 -/
def RetZE (w : World) (z : Int) (K : Nat) (e : Ending) (w' : World) : Prop := ∃ x : IV, e = .returned (.tuple #[.agg (ivc x).toArray, .int .i64 0]) ∧ LI w'.heap z x ∧ Ext w w' ∧ x.m.n ≤ K
end Go.Proofs.YthlbihbchobllaaGreat

namespace Go.Proofs.YthlbihbchobllaaGreat
open Go Go.Eng Go.Proofs Go.NatM Go.RowKit

theorem least_each (w : World) (l : List IV) (K : Nat) (hg : ∀ y ∈ l, GI w.heap y ∧ y.m.n ≤ K) (hK : K ≤ 35184372088832) :
    ∀ i y (w1 : World), l[i]? = some y → Ext w w1 → Cl Tryz.prog 45 ([Value.agg (ivc y).toArray] ++ []).toArray w1 (RetZ w1 ((fun q => ival (l.getD q default)) i) K) := by
  intro i y w1 hy hE
  obtain ⟨g1, g2⟩ := hg y (List.mem_of_getElem? hy)
  refine (zleast_ok w1 y (g1.ext hE) (by omega)).mono ?_
  rintro e w' ⟨x, rfl, h1, h2, h3⟩
  refine ⟨x, rfl, ?_, h2, by omega⟩
  have e1 : l.getD i default = y := by simp [List.getD, hy]
  simp only [e1]
  exact h1
theorem LL.lm {H : Array Obj} {x : MV} {r c K k : Nat} {A : Option Addr} {l : List IV} (sh : Sound x r c) (h : LL H A (r * c) k l (fun q => ival (x.l.getD q default)) K) : LM H ⟨r, c, A, r * c, k, l⟩ r c (ent x c) K :=
  ⟨⟨rfl, rfl, sh.r64, sh.c64, rfl⟩, h.s, fun i j hi hj => h.g (i * c + j) (place_lt hi hj)⟩
theorem LF.mf {w : World} {A : Option Addr} {r c k : Nat} {l : List IV} {n : Nat} (h : LF w A n) : MF w ⟨r, c, A, n, k, l⟩ := h
set_option maxRecDepth 100000 in
set_option maxHeartbeats 8000000 in
theorem mleast_ok (w : World) (x : MV) (r c K : Nat) (gx : GM w.heap x r c K) (hK : K ≤ 35184372088832) : Cl Tryz.prog 55 #[.agg (mvc x).toArray] w (RetME w r c (ent x c) K) := by
  have hs0 := gx.sh
  obtain ⟨xr, xc, A1, n1, k1, l1⟩ := x
  obtain ⟨hr1, hc1, hr, hc, hn1⟩ := hs0
  dsimp only at hr1 hc1 hn1
  subst hr1 hc1 hn1
  have hm := mul64 hr hc
  refine enter Tryz.func55 rfl rfl rfl ?_
  have hF := Fr.refl w
  repeat' (first | (refine TL.isOp ?_; first | (refine TL.isCall ?_; refine TL.call rfl rfl ?_; first | (refine (chk_ok _ _ r c gx.sh).mono ?_; rintro _ wy ⟨rfl, hE⟩; replace hF := hF.exts hE; clear hE; refine Back.mk ?_) | (refine (each_ok _ A1 (r * c) k1 l1 (gx.s.ext hF.ext).size (by omega) 45 [] inferInstance _ K (least_each _ l1 K (fun y hy => ⟨(gx.g y hy).1.ext hF.ext, (gx.g y hy).2⟩) hK)).mono ?_; rintro _ wl ⟨Al, kl, ll, rfl, hL, hE, hf⟩; have hLm := LL.lm gx.sh hL; have hMf := LF.mf (r := r) (c := c) (k := kl) (l := ll) hf; replace hMf := hMf.mono hF.ext.size; replace hF := Fr.addLM hF hE hLm (LF.mf hf); clear hE hf hL hLm; refine Back.mk ?_)) | (refine TL.isBin ?_; refine TL.cmpG rfl rfl rfl rfl (fun hc => ?_) (fun hc => ?_) <;> (try (first | (exfalso; omega) | exact absurd rfl hc))) | (apply TL.ev; (case hd => rfl); (case h => (first | exact ev_simple rfl | (apply Ev.isLoad; first | exact ev_loadAFr hF rfl (by refine ⟨?_, ?_⟩; (focus (repeat (first | exact InV.head | apply InV.tail))); rfl))))) | (refine TL.storeAFr hF rfl rfl rfl rfl (by refine ⟨?_, ?_⟩; (focus (repeat (first | apply SetV.head | apply SetV.tail))); rfl) rfl ?_; clear hF; intro ws hF) | (refine TL.boxAFr hF (d := 1) (cs := [.int .i64 (r : Int), .int .i64 (c : Int), .slice A1 (r * c) k1]) rfl rfl ?_; clear hF; intro w1 b1 hF) | (refine TL.allocFr hF (d := 2) rfl rfl ?_; clear hF; intro w2 b2 hF)) | (refine TF.is ?_; first | refine TF.nil ?_ | refine TF.e rfl ?_ | (refine TF.pick rfl ?_; first | (apply TFo.ev; (case hd => rfl); (case h => (intro wh hF; first | exact ev_simple rfl | (apply Ev.isLoad; first | exact ev_loadFr hF rfl (by refine ⟨?_, ?_⟩; (focus (repeat (first | exact InV.head | apply InV.tail))); rfl)) | exact ev_fieldAddr rfl | exact ev_buildX rfl rfl))))) | (refine T.is ?_; first | refine T.seq ?_ | refine T.region ?_ | refine T.cond_f rfl ?_ | refine T.ret ?_ | refine T.skip ?_ | (refine T.regionFt hF 4 10 (.s 0 (.s 1 (.s 2 (.s 3 (.s 4 (.s 5 (.e 6 (.s 7 (.e 8 (.s 9 .nil)))))))))) mixed (by kernel_rfl) ?_; clear hF; intro wr hF)) | (refine G.is ?_; first | refine G.next ?_ | refine G.only ?_ | refine G.tree rfl (by first | exact hF | exact hF.weak (List.sublist_append_right _ _) (by repeat (first | exact allR | apply allT)) | exact hF.weak (by repeat (first | exact List.Sublist.refl _ | apply List.Sublist.cons)) (by repeat (first | exact allR | apply allT)) | exact hF.weak (by repeat (first | exact List.Sublist.refl _ | apply List.Sublist.cons)) (by repeat (first | exact allN | refine allH (by repeat (first | exact memH | apply memT)) ?_))) ?_) | refine TL.nil ?_)
  exact G.retC2 rfl rfl rfl (held_agg (hF.var (by repeat (first | exact InV.head | apply InV.tail))) rfl) ⟨⟨r, c, Al, r * c, kl, ll⟩, rfl, Fr.lm hF (by repeat (first | exact memH | apply memT)), hF.ext, hMf⟩
/-- a matrix value whose numbers are in range -/
structure InR (x : MV) : Prop where
  r : -9223372036854775808 ≤ x.r ∧ x.r < 9223372036854775808
  c : -9223372036854775808 ≤ x.c ∧ x.c < 9223372036854775808
theorem chk_bad (w : World) (x : MV) (hx : InR x) (hn : ¬ ∃ r c, Sound x r c) : Cl Tryz.prog 15 #[.agg (mvc x).toArray] w (fun e w' => e = .returned (.int .i64 1) ∧ Ext w w') := by
  obtain ⟨xr, xc, A, n, k, l⟩ := x
  obtain ⟨hr, hc⟩ := hx
  dsimp only at hr hc
  by_cases h1 : 0 ≤ xr ∧ xr ≤ 64
  · by_cases h2 : 0 ≤ xc ∧ xc ≤ 64
    · obtain ⟨r, rfl⟩ := Int.eq_ofNat_of_zero_le h1.1
      obtain ⟨c, rfl⟩ := Int.eq_ofNat_of_zero_le h2.1
      have hm := mul64 (r := r) (c := c) (by omega) (by omega)
      have hne : n ≠ r * c := fun e => hn ⟨r, c, rfl, rfl, by omega, by omega, e⟩
      refine enter Tryz.func15 rfl rfl rfl ?_
      have hF := Fr.refl w
      repeat' (first | (refine TL.isOp ?_; first | (refine TL.isG ?_; first | refine TL.grun rfl rfl rfl ?_) | (refine TL.isCall ?_; refine TL.call rfl rfl ?_; first | (refine (side_ok _ _ true (decide_eq_true (by omega))).cl.mono ?_; rintro _ wc ⟨rfl, hE⟩; replace hF := hF.exts hE.ext; clear hE; refine Back.mk ?_)) | (refine TL.isBin ?_; refine TL.cmpG rfl rfl rfl rfl (fun hc => ?_) (fun hc => ?_) <;> (try (first | (exfalso; omega) | exact absurd rfl hc))) | (apply TL.ev; (case hd => rfl); (case h => (first | exact ev_simple rfl | (apply Ev.isBin; first | exact ev_arN rfl rfl rfl (by omega)) | (apply Ev.isLoad; first | exact ev_loadFr hF rfl (by refine ⟨?_, ?_⟩; (focus (repeat (first | exact InV.head | apply InV.tail))); rfl)) | exact ev_len rfl | exact ev_fieldAddr rfl))) | (refine TL.boxAFr hF (d := 1) (cs := [.int .i64 (r : Int), .int .i64 (c : Int), .slice A n k]) rfl rfl ?_; clear hF; intro w1 b1 hF)) | (refine T.is ?_; first | refine T.seq ?_ | refine T.region ?_ | refine T.cond_t rfl ?_ | refine T.ret ?_) | (refine G.is ?_; first | refine G.next ?_ | refine G.thenR ?_) | refine TL.nil ?_)
      exact G.ret1 rfl rfl ⟨rfl, hF.ext⟩
    · refine enter Tryz.func15 rfl rfl rfl ?_
      have hF := Fr.refl w
      repeat' (first | (refine TL.isOp ?_; first | (refine TL.isG ?_; first | refine TL.grun rfl rfl rfl ?_ | refine TL.gskip rfl rfl rfl rfl ?_) | (refine TL.isCall ?_; refine TL.call rfl rfl ?_; first | (refine (side_ok _ xr true (decide_eq_true (by omega))).cl.mono ?_; rintro _ wc ⟨rfl, hE⟩; replace hF := hF.exts hE.ext; clear hE; refine Back.mk ?_) | (refine (side_ok _ xc false (decide_eq_false (by omega))).cl.mono ?_; rintro _ wc ⟨rfl, hE⟩; replace hF := hF.exts hE.ext; clear hE; refine Back.mk ?_)) | (apply TL.ev; (case hd => rfl); (case h => (first | exact ev_simple rfl | (apply Ev.isLoad; first | exact ev_loadFr hF rfl (by refine ⟨?_, ?_⟩; (focus (repeat (first | exact InV.head | apply InV.tail))); rfl)) | exact ev_fieldAddr rfl))) | (refine TL.boxAFr hF (d := 1) (cs := [.int .i64 xr, .int .i64 xc, .slice A n k]) rfl rfl ?_; clear hF; intro w1 b1 hF)) | (refine T.is ?_; first | refine T.seq ?_ | refine T.region ?_ | refine T.cond_t rfl ?_ | refine T.ret ?_) | (refine G.is ?_; first | refine G.next ?_ | refine G.thenR ?_) | refine TL.nil ?_)
      exact G.ret1 rfl rfl ⟨rfl, hF.ext⟩
  · refine enter Tryz.func15 rfl rfl rfl ?_
    have hF := Fr.refl w
    repeat' (first | (refine TL.isOp ?_; first | (refine TL.isG ?_; first | refine TL.gskip rfl rfl rfl rfl ?_) | (refine TL.isCall ?_; refine TL.call rfl rfl ?_; first | (refine (side_ok _ xr false (decide_eq_false (by omega))).cl.mono ?_; rintro _ wc ⟨rfl, hE⟩; replace hF := hF.exts hE.ext; clear hE; refine Back.mk ?_)) | (apply TL.ev; (case hd => rfl); (case h => (first | exact ev_simple rfl | (apply Ev.isLoad; first | exact ev_loadFr hF rfl (by refine ⟨?_, ?_⟩; (focus (repeat (first | exact InV.head | apply InV.tail))); rfl)) | exact ev_fieldAddr rfl))) | (refine TL.boxAFr hF (d := 1) (cs := [.int .i64 xr, .int .i64 xc, .slice A n k]) rfl rfl ?_; clear hF; intro w1 b1 hF)) | (refine T.is ?_; first | refine T.seq ?_ | refine T.region ?_ | refine T.cond_t rfl ?_ | refine T.ret ?_) | (refine G.is ?_; first | refine G.next ?_ | refine G.thenR ?_) | refine TL.nil ?_)
    exact G.ret1 rfl rfl ⟨rfl, hF.ext⟩
/-- a walk over the rows of a matrix: a closure over the matrix -/
def RetIt (w : World) (r c : Nat) (F : Nat → Nat → Int) (K : Nat) (e : Ending) (w' : World) : Prop := ∃ (b : Nat) (A : Option Addr) (k : Nat) (l : List IV), e = .returned (.func (.func 56) #[] #[.pointer (some ⟨b, 0, none⟩)]) ∧
  Vr w'.heap b 24 [.int .i64 (r : Int), .int .i64 (c : Int), .slice A (r * c) k] ∧ LM w'.heap ⟨r, c, A, r * c, k, l⟩ r c F K ∧ Ext w w' ∧ w.heap.size ≤ b ∧ MF w ⟨r, c, A, r * c, k, l⟩
theorem lines_ok (w : World) (x : MV) (r c K : Nat) (gx : GM w.heap x r c K) (hK : K ≤ 35184372088832) : Cl Tryz.prog 36 #[.agg (mvc x).toArray] w (RetIt w r c (ent x c) K) := by
  have hl := fun w1 (hE : Ext w w1) => mleast_ok w1 x r c K (gx.ext hE) hK
  obtain ⟨xr, xc, A, n, k, l⟩ := x
  refine enter Tryz.func36 rfl rfl rfl ?_
  have hF := Fr.refl w
  repeat' (first | (refine TL.isOp ?_; first | (refine TL.isCall ?_; refine TL.call rfl rfl ?_; first | (refine (hl _ hF.ext).mono ?_; rintro _ wu ⟨zu, rfl, hLu, hE, hf⟩; obtain ⟨Au, ku, lu, rfl⟩ := lm_mk hLu; rw [mvc_mk _ _ Au]; have hfu := hf.mono hF.ext.size; replace hF := Fr.addLM hF hE hLu hf; clear hE hf hLu; refine Back.mk ?_)) | (apply TL.ev; (case hd => rfl); (case h => (first | exact ev_simple rfl | (apply Ev.isLoad; first | exact ev_loadAFr hF rfl (by refine ⟨?_, ?_⟩; (focus (repeat (first | exact InV.head | apply InV.tail))); rfl)) | exact ev_makeFunc rfl))) | (refine TL.storeAFr hF rfl rfl rfl rfl (by refine ⟨?_, ?_⟩; (focus (repeat (first | apply SetV.head | apply SetV.tail))); rfl) rfl ?_; clear hF; intro ws hF) | (refine TL.boxAFr hF (d := 1) (cs := [.int .i64 xr, .int .i64 xc, .slice A n k]) rfl rfl ?_; clear hF; intro w1 b1 hF) | (refine TL.allocFr hF (d := 3) rfl rfl ?_; clear hF; intro w3 b3 hF)) | (refine T.is ?_; first | refine T.seq ?_ | refine T.region ?_ | refine T.ret ?_) | (refine G.is ?_; first | refine G.next ?_) | refine TL.nil ?_)
  have hlo := hF.lo (.head (b := b3))
  exact G.ret1 rfl rfl ⟨b3, Au, ku, lu, rfl, hF.var (by repeat (first | exact InV.head | apply InV.tail)), Fr.lm hF (by repeat (first | exact memH | apply memT)), hF.ext, hlo.resolve_right id, hfu⟩
theorem Sm.sub {α : Type} {k : Nat} {f : α → List Value} {H : Array Obj} {B n c lo m : Nat} {A : Option Addr} {l : List α} (h : Sm k f H B A n c l) (hm : lo + m ≤ n) : Sm k f H B (elemA A (lo * k)) m (c - lo) ((l.drop lo).take m) := by
  have hlen := h.len
  have hcap := h.cap
  refine ⟨by rw [List.length_take, List.length_drop]; omega, by omega, h.pos, fun x hx => h.wid x (List.mem_of_mem_drop (List.mem_of_mem_take hx)), ?_⟩
  rcases Nat.eq_zero_or_pos m with h0 | h0
  · exact .inl h0
  · rcases h.mem with h1 | ⟨b, o, e, hlt, hc⟩
    · omega
    · refine .inr ⟨b, o + lo * k, by rw [e]; simp [elemA, add_mk], hlt, fun j x hx q v hv => ?_⟩
      have h2 : l[lo + j]? = some x := by
        rw [List.getElem?_take] at hx
        split at hx
        · rwa [List.getElem?_drop] at hx
        · cases hx
      have := hc (lo + j) x h2 q v hv
      rw [Nat.add_mul] at this
      rw [show o + lo * k + (j * k + q) = o + (lo * k + j * k + q) by omega]
      exact this
/-- a row that a walk hands over -/
structure RowV where
  i : Nat
  A : Option Addr
  n : Nat
  k : Nat
  l : List IV
theorem LL.congr {H : Array Obj} {A : Option Addr} {n k K : Nat} {l : List IV} {Z Z' : Nat → Int} (h : LL H A n k l Z K) (e : ∀ q, q < n → Z q = Z' q) : LL H A n k l Z' K := ⟨h.s, fun q hq => by rw [← e q hq]; exact h.g q hq⟩
theorem row_sub (i c : Nat) : (i + 1) * c - i * c = c := by rw [Nat.add_mul, Nat.one_mul]; omega
theorem ev_rowSl {P : Program} {σ : Store} {H : Array Obj} {d : Option Tmp} {t : TypeId} {pos : String} {af : Array Edge} {gd : Option (Nat × Bool)} {x : Operand} {A : Option Addr} {n cc i c : Nat} {ty e : TypeId} [hT : USlice P ty e] {z : Value} {b1 : Nat} [hS : USize P e z 2 b1] {y u : Operand}
    (hx : Eng.look σ x = some (.slice A n cc)) (hy : Eng.look σ y = some (.int .i64 ((i * c : Nat) : Int))) (hu : Eng.look σ u = some (.int .i64 (((i + 1) * c : Nat) : Int))) (hn : (i + 1) * c ≤ cc) :
    Ev P σ H ⟨d, .slice ty x (some y) (some u) none, t, pos, af, gd⟩ (.slice (cutM 2 A cc (i * c)) c (cc - i * c)) := by
  have := ev_slM_lh (P := P) (σ := σ) (H := H) (d := d) (t := t) (pos := pos) (af := af) (gd := gd) (ty := ty) (l := i * c) (h := (i + 1) * c) hx hy hu (Nat.mul_le_mul_right c (Nat.le_succ i)) hn
  rwa [row_sub] at this
end Go.Proofs.YthlbihbchobllaaGreat
