/- The engine: frames for statements about memory: what a walk may write lies in a set S, or is its own; facts on data name their blocks. -/
import Derived.Test.YtgmhldapndhoeaaEngF
set_option linter.unusedVariables false
set_option linter.unusedSimpArgs false
namespace Go.Eng
open Go Go.RowKit

/-- what stood stands, but for the blocks of S -/
structure Exs (S : Nat → Prop) (w w' : World) : Prop where
  os : w'.os = w.os
  tape : w'.tape = w.tape
  output : w'.output = w.output
  size : w.heap.size ≤ w'.heap.size
  block : ∀ k, k < w.heap.size → ¬ S k → w'.heap[k]? = w.heap[k]?
theorem Exs.refl (S : Nat → Prop) (w : World) : Exs S w w := ⟨rfl, rfl, rfl, Nat.le_refl _, fun _ _ _ => rfl⟩
theorem Exs.of {S : Nat → Prop} {w w' : World} (h : Ext w w') : Exs S w w' := ⟨h.os, h.tape, h.output, h.size, fun k hk _ => h.block k hk⟩
theorem Exs.trans {S : Nat → Prop} {a b c : World} (h : Exs S a b) (k : Exs S b c) : Exs S a c :=
  ⟨k.os.trans h.os, k.tape.trans h.tape, k.output.trans h.output, Nat.le_trans h.size k.size, fun i hi hs => (k.block i (Nat.lt_of_lt_of_le hi h.size) hs).trans (h.block i hi hs)⟩
theorem Exs.mono {S S' : Nat → Prop} {a b : World} (h : Exs S a b) (hs : ∀ k, k < a.heap.size → S k → S' k) : Exs S' a b := ⟨h.os, h.tape, h.output, h.size, fun k hk hn => h.block k hk fun e => hn (hs k hk e)⟩
theorem Exs.ext {S : Nat → Prop} {a b : World} (h : Exs S a b) (hs : ∀ k, k < a.heap.size → ¬ S k) : Ext a b := ⟨h.os, h.tape, h.output, h.size, fun k hk => h.block k hk (hs k hk)⟩
theorem Exs.ext0 {a b : World} (h : Exs (fun _ => False) a b) : Ext a b := h.ext fun _ _ h => h
/-- .. seen from w0, of which the blocks of S may be written, and all that came later -/
theorem Exs.then {S S' : Nat → Prop} {w0 a b : World} (h : Exs S w0 a) (k : Exs S' a b) (hs : ∀ i, i < w0.heap.size → S' i → S i) : Exs S w0 b :=
  ⟨k.os.trans h.os, k.tape.trans h.tape, k.output.trans h.output, Nat.le_trans h.size k.size, fun i hi hn => (k.block i (Nat.lt_of_lt_of_le hi h.size) fun e => hn (hs i hi e)).trans (h.block i hi hn)⟩
theorem Upd.exs {g : Nat} {w w' : World} (h : Upd g w w') : Exs (fun k => k = g) w w' := ⟨h.os, h.tape, h.output, Nat.le_of_eq h.size.symm, fun k _ hn => h.block k hn⟩
theorem Vr.exs {S : Nat → Prop} {w w' : World} {b : Nat} {t : TypeId} {cs : List Value} (hE : Exs S w w') (hS : ¬ S b) (h : Vr w.heap b t cs) : Vr w'.heap b t cs := (hE.block b h.lt hS).trans h
theorem Sl.exs {α : Type} {f : α → Value} {S : Nat → Prop} {w w' : World} {B n c : Nat} {A : Option Addr} {l : List α} (hE : Exs S w w') (hS : ∀ k, fpA A n k → ¬ S k) (h : Sl f w.heap B A n c l) : Sl f w'.heap B A n c l := by
  refine ⟨h.len, h.cap, ?_⟩
  rcases h.mem with h0 | ⟨b, o, e, hlt, hm⟩
  · exact .inl h0
  · rcases Nat.eq_zero_or_pos n with h0 | h0
    · exact .inl h0
    · have hl : 0 < l.length := by have := h.len; omega
      have hb := hcell_lt (hm 0 l[0] (List.getElem?_eq_getElem hl))
      exact .inr ⟨b, o, e, hlt, fun j x hx => hcell_eq (hE.block b hb (hS b ⟨h0, o, e⟩)) (hm j x hx)⟩
/-- the blocks of F are as they were -/
structure DEk (F : Nat → Prop) (H H' : Array Obj) : Prop where
  size : H.size ≤ H'.size
  block : ∀ k, k < H.size → F k → H'[k]? = H[k]?
/-- a fact on data, and the blocks that it looks at -/
structure DK where
  p : Array Obj → Prop
  fp : Nat → Prop
  lt : ∀ H k, p H → fp k → k < H.size
  st : ∀ H H', DEk fp H H' → p H → p H'
structure Fk (S : Nat → Prop) (w0 w : World) (L : List VB) (D : List DK) : Prop where
  exs : Exs S w0 w
  vars : ∀ v ∈ L, (w0.heap.size ≤ v.b ∨ S v.b) ∧ Vr w.heap v.b v.t v.cs
  dist : L.Pairwise (fun x y => x.b ≠ y.b)
  data : ∀ d ∈ D, d.p w.heap
  apart : ∀ v ∈ L, ∀ d ∈ D, ¬ d.fp v.b
  dd : D.Pairwise (fun d e => ∀ k, d.fp k → ¬ e.fp k)
  own : ∀ d ∈ D, ∀ k, d.fp k → w0.heap.size ≤ k ∨ S k
section
variable {S : Nat → Prop} {w0 w w' : World} {L L' : List VB} {D D' : List DK} {b : Nat} {t : TypeId} {cs r : List Value}
theorem Fk.refl (S : Nat → Prop) (w : World) : Fk S w w [] [] := ⟨Exs.refl _ _, fun _ h => (by cases h), List.Pairwise.nil, fun _ h => (by cases h), fun _ h => (by cases h), List.Pairwise.nil, fun _ h => (by cases h)⟩
theorem Fk.ext (h : Fk (fun _ => False) w0 w L D) : Ext w0 w := h.exs.ext0
theorem Fk.get (h : Fk S w0 w L D) {d : DK} (hd : d ∈ D) : d.p w.heap := h.data d hd
theorem Fk.exts (h : Fk S w0 w L D) (hE : Ext w w') : Fk S w0 w' L D :=
  ⟨h.exs.trans (.of hE), fun v hv => ⟨(h.vars v hv).1, (h.vars v hv).2.ext hE⟩, h.dist, fun d hd => d.st _ _ ⟨hE.size, fun k hk _ => hE.block k hk⟩ (h.data d hd), h.apart, h.dd, h.own⟩
/-- a fact without blocks of its own -/
theorem Fk.add0 (h : Fk S w0 w L D) (d : DK) (hd : d.p w.heap) (hn : ∀ k, ¬ d.fp k) : Fk S w0 w L (d :: D) :=
  ⟨h.exs, h.vars, h.dist, fun x hx => (List.mem_cons.1 hx).elim (fun e => by rw [e]; exact hd) (h.data x), fun v hv x hx => (List.mem_cons.1 hx).elim (fun e => by rw [e]; exact hn _) (h.apart v hv x), List.pairwise_cons.2 ⟨fun e _ k hk => absurd hk (hn k), h.dd⟩, fun x hx k hk => (List.mem_cons.1 hx).elim (fun e => by rw [e] at hk; exact absurd hk (hn k)) (fun hx => h.own x hx k hk)⟩
/-- data in blocks that are not older than w -/
theorem Fk.addNew (h : Fk S w0 w L D) (hE : Ext w w') (d : DK) (hd : d.p w'.heap) (hn : ∀ k, d.fp k → w.heap.size ≤ k) : Fk S w0 w' L (d :: D) := by
  have h1 := h.exts hE
  refine ⟨h1.exs, h1.vars, h1.dist, fun x hx => ?_, fun v hv x hx => ?_, List.pairwise_cons.2 ⟨fun e he k hk hek => ?_, h1.dd⟩, fun x hx k hk => ?_⟩
  · rcases List.mem_cons.1 hx with rfl | hx
    · exact hd
    · exact h1.data x hx
  · rcases List.mem_cons.1 hx with rfl | hx
    · intro hk; have q1 := (h.vars v hv).2.lt; have q2 := hn _ hk; omega
    · exact h1.apart v hv x hx
  · have q1 := e.lt _ _ (h.data e he) hek; have q2 := hn _ hk; omega
  · rcases List.mem_cons.1 hx with rfl | hx
    · exact .inl (Nat.le_trans h.exs.size (hn _ hk))
    · exact h1.own x hx k hk
theorem Fk.var (h : Fk S w0 w L D) (hv : InV L b t cs) : Vr w.heap b t cs := (h.vars _ hv.mem).2
theorem Fk.new (h : Fk S w0 w L D) (hb : b = w.heap.size) (hV : Vr w'.heap b t cs) (hE : Ext w w') : Fk S w0 w' (⟨b, t, cs⟩ :: L) D := by
  have h1 := h.exts hE
  refine ⟨h1.exs, fun v hv => ?_, List.pairwise_cons.2 ⟨fun v hv e => ?_, h.dist⟩, h1.data, fun v hv d hd => ?_, h1.dd, h1.own⟩
  · rcases List.mem_cons.1 hv with rfl | hv
    · exact ⟨.inl (by rw [hb]; exact h.exs.size), hV⟩
    · exact h1.vars v hv
  · have := (h.vars v hv).2.lt
    simp only at e
    omega
  · rcases List.mem_cons.1 hv with rfl | hv
    · intro hk
      have := d.lt _ _ (h.data d hd) hk
      simp only at this
      omega
    · exact h.apart v hv d hd
/-- a block known whole is written -/
theorem Fk.store (h : Fk S w0 w L D) (hS : SetV L b t cs r L') (hu : Upd b w w') (hV : Vr w'.heap b t r) : Fk S w0 w' L' D := by
  have hb := (h.vars _ hS.inV.mem).1
  have hap := fun d hd => h.apart _ hS.inV.mem d hd
  refine ⟨h.exs.then hu.exs fun i hi e => ?_, ?_, ?_, fun d hd => d.st _ _ ⟨Nat.le_of_eq hu.size.symm, fun k _ hk => hu.block k fun e => hap d hd (e ▸ hk)⟩ (h.data d hd), ?_, h.dd, h.own⟩
  · subst e
    rcases hb with hb | hb
    · simp only at hb; omega
    · exact hb
  · intro v hv
    obtain ⟨pre, post, e1, e2⟩ := hS.split
    subst e1 e2
    have hdist := h.dist
    rw [List.pairwise_append] at hdist
    have hq : ∀ v, v ∈ pre ∨ v ∈ post → (w0.heap.size ≤ v.b ∨ S v.b) ∧ Vr w'.heap v.b v.t v.cs := by
      intro v hv
      have hm : v ∈ pre ++ (⟨b, t, cs⟩ : VB) :: post := by
        rcases hv with hv | hv
        · exact List.mem_append_left _ hv
        · exact List.mem_append_right _ (List.mem_cons_of_mem _ hv)
      have hne : v.b ≠ b := by
        rcases hv with hv | hv
        · exact hdist.2.2 v hv _ (List.mem_cons_self ..)
        · exact fun e => (List.pairwise_cons.1 hdist.2.1).1 v hv e.symm
      exact ⟨(h.vars v hm).1, (h.vars v hm).2.upd hu hne⟩
    rcases List.mem_append.1 hv with hv | hv
    · exact hq v (.inl hv)
    · rcases List.mem_cons.1 hv with rfl | hv
      · exact ⟨hb, hV⟩
      · exact hq v (.inr hv)
  · obtain ⟨pre, post, e1, e2⟩ := hS.split
    subst e1 e2
    have hdist := h.dist
    rw [List.pairwise_append, List.pairwise_cons] at hdist ⊢
    refine ⟨hdist.1, ⟨fun v hv => hdist.2.1.1 v hv, hdist.2.1.2⟩, fun x hx y hy => ?_⟩
    rcases List.mem_cons.1 hy with rfl | hy
    · exact hdist.2.2 x hx ⟨b, t, cs⟩ (List.mem_cons_self ..)
    · exact hdist.2.2 x hx y (List.mem_cons_of_mem _ hy)
  · intro v hv d hd
    obtain ⟨pre, post, e1, e2⟩ := hS.split
    subst e1 e2
    rcases List.mem_append.1 hv with hv | hv
    · exact h.apart v (List.mem_append_left _ hv) d hd
    · rcases List.mem_cons.1 hv with rfl | hv
      · exact hap d hd
      · exact h.apart v (List.mem_append_right _ (List.mem_cons_of_mem _ hv)) d hd
theorem Fk.weak (h : Fk S w0 w L' D') (hL : L.Sublist L') (hD : D.Sublist D') : Fk S w0 w L D :=
  ⟨h.exs, fun v hv => h.vars v (hL.subset hv), h.dist.sublist hL, fun d hd => h.data d (hD.subset hd), fun v hv d hd => h.apart v (hL.subset hv) d (hD.subset hd), h.dd.sublist hD, fun d hd => h.own d (hD.subset hd)⟩
inductive SetD : List DK → DK → DK → List DK → Prop
  | head {D : List DK} {d e : DK} : SetD (d :: D) d e (e :: D)
  | tail {x d e : DK} {D D' : List DK} : SetD D d e D' → SetD (x :: D) d e (x :: D')
theorem SetD.mem {D D' : List DK} {d e : DK} (h : SetD D d e D') : d ∈ D := by
  induction h with
  | head => exact List.mem_cons_self ..
  | tail _ ih => exact List.mem_cons_of_mem _ ih
theorem SetD.split {D D' : List DK} {d e : DK} (h : SetD D d e D') : ∃ pre post, D = pre ++ d :: post ∧ D' = pre ++ e :: post := by
  induction h with
  | head => exact ⟨[], _, rfl, rfl⟩
  | @tail x d e D D' _ ih =>
    obtain ⟨pre, post, h1, h2⟩ := ih
    exact ⟨x :: pre, post, by rw [h1]; rfl, by rw [h2]; rfl⟩
/-- the blocks of one fact are written: all others stand -/
theorem Fk.write (h : Fk S w0 w L D) {d e : DK} (hS : SetD D d e D') (hE : Exs d.fp w w') (he : e.p w'.heap) (hfp : ∀ k, e.fp k → d.fp k ∨ w.heap.size ≤ k) : Fk S w0 w' L D' := by
  have hd := hS.mem
  have hst : ∀ x ∈ D, (∀ k, x.fp k → ¬ d.fp k) → x.p w'.heap := fun x hx hap => x.st _ _ ⟨hE.size, fun k hk hf => hE.block k hk (hap k hf)⟩ (h.data x hx)
  obtain ⟨pre, post, e1, e2⟩ := hS.split
  subst e1 e2
  have hdd := h.dd
  rw [List.pairwise_append, List.pairwise_cons] at hdd
  have hot : ∀ x, x ∈ pre ∨ x ∈ post → x ∈ pre ++ d :: post ∧ ∀ k, x.fp k → ¬ d.fp k := fun x hx => by
    rcases hx with hx | hx
    · exact ⟨List.mem_append_left _ hx, fun k hk => hdd.2.2 x hx d (List.mem_cons_self ..) k hk⟩
    · exact ⟨List.mem_append_right _ (List.mem_cons_of_mem _ hx), fun k hk hk' => hdd.2.1.1 x hx k hk' hk⟩
  have hne : ∀ x, x ∈ pre ∨ x ∈ post → ∀ k, x.fp k → ¬ e.fp k := fun x hx k hk hk' => by
    rcases hfp k hk' with h1 | h1
    · exact (hot x hx).2 k hk h1
    · have := x.lt _ _ (h.data x (hot x hx).1) hk; omega
  refine ⟨h.exs.then hE fun i hi hf => (h.own d hd i hf).resolve_left (by omega), fun v hv => ⟨(h.vars v hv).1, (h.vars v hv).2.exs hE (h.apart v hv d hd)⟩, h.dist, fun x hx => ?_, fun v hv x hx => ?_, ?_, fun x hx k hk => ?_⟩
  · rcases List.mem_append.1 hx with hx | hx
    · exact hst x (hot x (.inl hx)).1 (hot x (.inl hx)).2
    · rcases List.mem_cons.1 hx with rfl | hx
      · exact he
      · exact hst x (hot x (.inr hx)).1 (hot x (.inr hx)).2
  · rcases List.mem_append.1 hx with hx | hx
    · exact h.apart v hv x (hot x (.inl hx)).1
    · rcases List.mem_cons.1 hx with rfl | hx
      · intro hk
        rcases hfp _ hk with h1 | h1
        · exact h.apart v hv d hd h1
        · have := (h.vars v hv).2.lt; omega
      · exact h.apart v hv x (hot x (.inr hx)).1
  · rw [List.pairwise_append, List.pairwise_cons]
    refine ⟨hdd.1, ⟨fun x hx k hk hk' => hne x (.inr hx) k hk' hk, hdd.2.1.2⟩, fun x hx y hy k hk => ?_⟩
    rcases List.mem_cons.1 hy with rfl | hy
    · exact hne x (.inl hx) k hk
    · exact hdd.2.2 x hx y (List.mem_cons_of_mem _ hy) k hk
  · rcases List.mem_append.1 hx with hx | hx
    · exact h.own x (hot x (.inl hx)).1 k hk
    · rcases List.mem_cons.1 hx with rfl | hx
      · rcases hfp k hk with h1 | h1
        · exact h.own d hd k h1
        · exact .inl (Nat.le_trans h.exs.size h1)
      · exact h.own x (hot x (.inr hx)).1 k hk
/-- the facts D1 are given up: their blocks may be written -/
theorem Fk.drop (h : Fk S w0 w L D) (D1 D2 : List DK) (h1 : ∀ d ∈ D1, d ∈ D) (h2 : D2.Sublist D) {F : Nat → Prop} (hE : Exs F w w') (hF : ∀ k, F k → ∃ d ∈ D1, d.fp k) (hap : ∀ x ∈ D2, ∀ d ∈ D1, ∀ k, x.fp k → ¬ d.fp k) : Fk S w0 w' L D2 := by
  have hs := h2.subset
  refine ⟨h.exs.then hE fun i hi hf => ?_, fun v hv => ⟨(h.vars v hv).1, (h.vars v hv).2.exs hE fun hk => ?_⟩, h.dist, fun x hx => x.st _ _ ⟨hE.size, fun k hk hf => hE.block k hk fun he => ?_⟩ (h.data x (hs hx)), fun v hv x hx => h.apart v hv x (hs hx), h.dd.sublist h2, fun x hx => h.own x (hs hx)⟩
  · obtain ⟨d, hd, hk⟩ := hF i hf
    exact (h.own d (h1 d hd) i hk).resolve_left (by omega)
  · obtain ⟨d, hd, hk⟩ := hF _ hk
    exact h.apart v hv d (h1 d hd) hk
  · obtain ⟨d, hd, hk'⟩ := hF _ he
    exact hap x hx d hd k hf hk'
/-- D1 and D2 are parts of D -/
inductive Mrg : List DK → List DK → List DK → Prop
  | nil : Mrg [] [] []
  | l {x : DK} {D1 D2 D : List DK} : Mrg D1 D2 D → Mrg (x :: D1) D2 (x :: D)
  | r {x : DK} {D1 D2 D : List DK} : Mrg D1 D2 D → Mrg D1 (x :: D2) (x :: D)
theorem Mrg.left {D1 D2 D : List DK} (h : Mrg D1 D2 D) : D1.Sublist D := by
  induction h with
  | nil => exact List.Sublist.refl _
  | l _ ih => exact ih.cons_cons _
  | r _ ih => exact ih.cons _
theorem Mrg.right {D1 D2 D : List DK} (h : Mrg D1 D2 D) : D2.Sublist D := by
  induction h with
  | nil => exact List.Sublist.refl _
  | l _ ih => exact ih.cons _
  | r _ ih => exact ih.cons_cons _
theorem Mrg.apart {D1 D2 D : List DK} (h : Mrg D1 D2 D) (hp : D.Pairwise (fun d e => ∀ k, d.fp k → ¬ e.fp k)) : ∀ x ∈ D2, ∀ d ∈ D1, ∀ k, x.fp k → ¬ d.fp k := by
  induction h with
  | nil => intro x hx; cases hx
  | @l y D1 D2 D hm ih =>
    rw [List.pairwise_cons] at hp
    intro x hx d hd k hk hk'
    rcases List.mem_cons.1 hd with rfl | hd
    · exact hp.1 x (hm.right.subset hx) k hk' hk
    · exact ih hp.2 x hx d hd k hk hk'
  | @r y D1 D2 D hm ih =>
    rw [List.pairwise_cons] at hp
    intro x hx d hd k hk hk'
    rcases List.mem_cons.1 hx with rfl | hx
    · exact hp.1 d (hm.left.subset hd) k hk hk'
    · exact ih hp.2 x hx d hd k hk hk'
theorem Fk.give (h : Fk S w0 w L D) {D1 D2 : List DK} (hm : Mrg D1 D2 D) {F : Nat → Prop} (hE : Exs F w w') (hF : ∀ k, F k → ∃ d ∈ D1, d.fp k) : Fk S w0 w' L D2 :=
  h.drop D1 D2 (fun d hd => hm.left.subset hd) hm.right hE hF (hm.apart h.dd)
/-- two facts of the list -/
theorem Fk.two (h : Fk S w0 w L D) {D1 D2 : List DK} {d e : DK} (hD : D = D1 ++ d :: D2) (he : e ∈ D1 ∨ e ∈ D2) : ∀ k, d.fp k → ¬ e.fp k := by
  subst hD
  have hdd := h.dd
  rw [List.pairwise_append, List.pairwise_cons] at hdd
  intro k hk hk'
  rcases he with he | he
  · exact hdd.2.2 e he d (List.mem_cons_self ..) k hk' hk
  · exact hdd.2.1.1 e he k hk hk'
theorem kmemH {d : DK} {D : List DK} : d ∈ d :: D := List.mem_cons_self ..
theorem kmemT {d x : DK} {D : List DK} (h : d ∈ D) : d ∈ x :: D := List.mem_cons_of_mem _ h
end

/-! ### Steps -/
section
variable {P : Program} {N : Nat} {Q : Exit → Act → World → Prop} {σ : Store} {S : Nat → Prop} {w0 w : World} {L : List VB} {D : List DK} {ops : Array Oper} {d : Nat} {t : TypeId} {pos : String} {af : Array Edge} {rest : List Oper} {l : List Oper}
theorem T.regionFk (hF : Fk S w0 w L D) (id : Nat) (f : Nat) (t : Rt) (hm : P.follows .mixedOrders = true) (hB : treeB l.toArray f t = true)
    (h : ∀ w1 : World, Fk S w0 w1 L D → TF P N l Q (fun w' => Fk S w0 w' L D) f t σ w1) : T P N (.region id l.toArray true) Q σ w :=
  T.regionF _ f t hm hB (hF.exts (ext_drewN w 1)) (h _ (hF.exts (ext_drewN w 1)))
theorem TL.nilFk (hF : Fk S w0 w L D) (h : ∀ w1 : World, Fk S w0 w1 L D → G N .normal Q σ w1) : TL P N .quiet ops Q [] σ w := TL.nilQ fun n => h _ (hF.exts (ext_drewN w n))
theorem TL.boxFk (hF : Fk S w0 w L D) {x : Operand} {ty : TypeId} {v : Value} (hx : look σ x = some v) (hd : Nat.blt d N = true)
    (K : ∀ w' b, Fk S w0 w' (⟨b, ty, v.cells.toList⟩ :: L) D → TL P N .seq ops Q rest ((d, .pointer (some ⟨b, 0, none⟩)) :: σ) w') :
    TL P N .seq ops Q (⟨some d, .box ty x, t, pos, af, none⟩ :: rest) σ w :=
  TL.box hx hd fun w' b hb hV hE _ => K w' b (hF.new hb hV hE)
theorem TL.boxAFk (hF : Fk S w0 w L D) {x : Operand} {ty : TypeId} {cs : List Value} (hx : look σ x = some (.agg cs.toArray)) (hd : Nat.blt d N = true)
    (K : ∀ w' b, Fk S w0 w' (⟨b, ty, cs⟩ :: L) D → TL P N .seq ops Q rest ((d, .pointer (some ⟨b, 0, none⟩)) :: σ) w') :
    TL P N .seq ops Q (⟨some d, .box ty x, t, pos, af, none⟩ :: rest) σ w :=
  TL.boxA hx hd fun w' b hb hV hE _ => K w' b (hF.new hb hV hE)
theorem TL.allocFk (hF : Fk S w0 w L D) {ty : TypeId} {z : Value} {sz b1 : Nat} [hS : USize P ty z sz b1] {cs : List Value} (hz : z.cells.toList = cs) (hd : Nat.blt d N = true)
    (K : ∀ w' b, Fk S w0 w' (⟨b, ty, cs⟩ :: L) D → TL P N .seq ops Q rest ((d, .pointer (some ⟨b, 0, none⟩)) :: σ) w') :
    TL P N .seq ops Q (⟨some d, .alloc ty, t, pos, af, none⟩ :: rest) σ w :=
  TL.alloc hd fun w' b hb hV hE _ => K w' b (hF.new hb (by rw [← hz]; exact hV) hE)
theorem TL.storeAFk (hF : Fk S w0 w L D) {x y : Operand} {ty e : TypeId} {z : Value} {sz b1 : Nat} [hS : USize P ty z sz b1] {b o : Nat} {cs r vs : List Value} {L' : List VB} (hx : look σ x = some (.pointer (some ⟨b, o, none⟩))) (hy : look σ y = some (.agg vs.toArray))
    (hsz : Nat.beq vs.length sz = true) (h1 : vs.all (·.oneCell') = true) (h : SetV L b e cs r L' ∧ putO cs o vs = some r) (hc : True = True)
    (K : ∀ w', Fk S w0 w' L' D → TL P N .seq ops Q rest σ w') : TL P N .seq ops Q (⟨none, .store ty x y, t, pos, af, none⟩ :: rest) σ w :=
  TL.storeVA hx hy hsz h1 (hF.var h.1.inV) h.2 fun w' h1 h2 => K w' (hF.store h.1 h2 h1)
theorem TL.storeFk (hF : Fk S w0 w L D) {x y : Operand} {ty e : TypeId} {z : Value} {b1 : Nat} [hS : USize P ty z 1 b1] {b o : Nat} {cs r : List Value} {v : Value} {L' : List VB} (hx : look σ x = some (.pointer (some ⟨b, o, none⟩))) (hy : look σ y = some v) (hvs : v.cells.toList = [v]) (h1 : v.oneCell' = true) (h : SetV L b e cs r L' ∧ putO cs o [v] = some r) (hc : True = True)
    (K : ∀ w', Fk S w0 w' L' D → TL P N .seq ops Q rest σ w') : TL P N .seq ops Q (⟨none, .store ty x y, t, pos, af, none⟩ :: rest) σ w :=
  TL.storeV hx hy hvs h1 (hF.var h.1.inV) h.2 fun w' h1 h2 => K w' (hF.store h.1 h2 h1)
end
section
variable {P : Program} {σ : Store} {d : Option Tmp} {t : TypeId} {pos : String} {af : Array Edge} {gd : Option (Nat × Bool)} {S : Nat → Prop} {w0 w : World} {L : List VB} {D : List DK}
theorem ev_loadFk (hF : Fk S w0 w L D) {x : Operand} {ty e : TypeId} [hO : UOne P ty] {b o : Nat} {cs : List Value} {v : Value} (hx : look σ x = some (.pointer (some ⟨b, o, none⟩))) (h : InV L b e cs ∧ nthV cs o = some v) : Ev P σ w.heap ⟨d, .load ty x, t, pos, af, gd⟩ v := ev_loadV hx (hF.var h.1) h.2
theorem ev_loadAFk (hF : Fk S w0 w L D) {x : Operand} {ty e : TypeId} [hA : UAgg P ty] {z : Value} {sz b1 : Nat} [hS : USize P ty z sz b1] {b o : Nat} {cs cs' : List Value} (hx : look σ x = some (.pointer (some ⟨b, o, none⟩))) (h : InV L b e cs ∧ subV cs o sz = some cs') :
    Ev P σ w.heap ⟨d, .load ty x, t, pos, af, gd⟩ (.agg cs'.toArray) := ev_loadVA hx (hF.var h.1) h.2
end

/-! ### Lists of words that have a block of their own -/
theorem putO_set : ∀ {cs : List Value} {k : Nat} (v : Value), k < cs.length → putO cs k [v] = some (cs.set k v)
  | [], k, v, h => by simp at h
  | a :: cs, 0, v, h => by simp [putO]
  | a :: cs, k + 1, v, h => by
    have := putO_set (cs := cs) (k := k) v (by simpa using h)
    simp only [putO, this, List.set_cons_succ]
theorem ow_iff {α : Type} {f : α → Value} {H : Array Obj} {lo : Nat} {t : TypeId} {A : Option Addr} {n c : Nat} {l : List α} : Ow f H lo t A n c l ↔ l.length = n ∧ ((A = none ∧ n = 0 ∧ c = 0) ∨ ∃ g cur, A = some ⟨g, 0, none⟩ ∧ lo ≤ g ∧ H[g]? = some (.cells cur t (0, 0)) ∧ n ≤ c ∧ c ≤ maxLen ∧ cur.size = c ∧ cur.toList.take n = l.map f) := by unfold Ow; exact Iff.rfl
section
variable {H : Array Obj} {t : TypeId} {A : Option Addr} {n c : Nat} {l : List Nat}
/-- a list at the head of a block of its own -/
def dkO (t : TypeId) (A : Option Addr) (n c : Nat) (l : List Nat) : DK where
  p H := Ow u64v H 0 t A n c l
  fp k := A = some ⟨k, 0, none⟩
  lt H k h hk := by
    rcases (ow_iff.1 h).2 with ⟨e, _⟩ | ⟨g, cur, e, _, hg, _⟩
    · rw [e] at hk; cases hk
    · rw [e] at hk; cases hk; exact (Array.getElem?_eq_some_iff.1 hg).1
  st H H' hd h := by
    have h' := ow_iff.1 h
    refine ow_iff.2 ⟨h'.1, h'.2.imp id ?_⟩
    rintro ⟨g, cur, e, h1, hg, h2⟩
    exact ⟨g, cur, e, h1, (hd.block g (Array.getElem?_eq_some_iff.1 hg).1 e).trans hg, h2⟩
theorem Ow.fresh {α : Type} {f : α → Value} {l : List α} {lo : Nat} (h : Ow f H lo t A n c l) (k : Nat) (hk : A = some ⟨k, 0, none⟩) : lo ≤ k := by
  rcases (ow_iff.1 h).2 with ⟨e, _⟩ | ⟨g, cur, e, h1, _⟩
  · rw [e] at hk; cases hk
  · rw [e] at hk; cases hk; exact h1
theorem Ow.at0 {α : Type} {f : α → Value} {l : List α} {lo : Nat} (h : Ow f H lo t A n c l) : Ow f H 0 t A n c l := h.mono (Nat.zero_le _)
theorem Fk.addO {S : Nat → Prop} {w0 w w' : World} {L : List VB} {D : List DK} (h : Fk S w0 w L D) (hE : Ext w w') (hO : Ow u64v w'.heap w.heap.size t A n c l) : Fk S w0 w' L (dkO t A n c l :: D) := h.addNew hE _ hO.at0 fun k hk => hO.fresh k hk
theorem Fk.o {S : Nat → Prop} {w0 w : World} {L : List VB} {D : List DK} (h : Fk S w0 w L D) (hm : dkO t A n c l ∈ D) : Ow u64v w.heap 0 t A n c l := h.data _ hm
theorem Fk.sl {S : Nat → Prop} {w0 w : World} {L : List VB} {D : List DK} (h : Fk S w0 w L D) (hm : dkO t A n c l ∈ D) : Sl u64v w.heap w.heap.size A n c l := (h.o hm).sl (Nat.le_refl _)
theorem Fk.storeO {S : Nat → Prop} {w0 w w' : World} {L : List VB} {D D' : List DK} {n' : Nat} {l' : List Nat} (h : Fk S w0 w L D) (hS : SetD D (dkO t A n c l) (dkO t A n' c l') D') (hE : Exs (fun j => A = some ⟨j, 0, none⟩) w w') (hO : Ow u64v w'.heap 0 t A n' c l') : Fk S w0 w' L D' := h.write hS hE hO fun k hk => .inl hk
/-- facts grouped anew -/
theorem Fk.re {S : Nat → Prop} {w0 w : World} {L : List VB} {D : List DK} (h : Fk S w0 w L D) (D' : List DK) (hp : ∀ d ∈ D', d.p w.heap) (hf : ∀ d ∈ D', ∀ k, d.fp k → ∃ e ∈ D, e.fp k) (hdd : D'.Pairwise (fun d e => ∀ k, d.fp k → ¬ e.fp k)) : Fk S w0 w L D' :=
  ⟨h.exs, h.vars, h.dist, hp, fun v hv d hd hk => by obtain ⟨e, he, hk'⟩ := hf d hd _ hk; exact h.apart v hv e he hk', hdd, fun d hd k hk => by obtain ⟨e, he, hk'⟩ := hf d hd _ hk; exact h.own e he k hk'⟩
/-- a fact to begin with, on blocks of S -/
theorem Fk.own0 {S : Nat → Prop} {w : World} (d : DK) (hp : d.p w.heap) (hf : ∀ k, d.fp k → S k) : Fk S w w [] [d] :=
  ⟨Exs.refl _ _, fun _ h => (by cases h), List.Pairwise.nil, fun x hx => by rw [List.mem_singleton] at hx; rw [hx]; exact hp, fun _ h => (by cases h), List.pairwise_singleton _ _, fun x hx k hk => by rw [List.mem_singleton] at hx; rw [hx] at hk; exact .inr (hf k hk)⟩
theorem Ow.exs {α : Type} {f : α → Value} {l : List α} {S : Nat → Prop} {w w' : World} {lo : Nat} (hE : Exs S w w') (hS : ∀ k, A = some ⟨k, 0, none⟩ → ¬ S k) (h : Ow f w.heap lo t A n c l) : Ow f w'.heap lo t A n c l := by
  have h' := ow_iff.1 h
  refine ow_iff.2 ⟨h'.1, h'.2.imp id ?_⟩
  rintro ⟨g, cur, e, h1, hg, h2⟩
  exact ⟨g, cur, e, h1, (hE.block g (Array.getElem?_eq_some_iff.1 hg).1 (hS g e)).trans hg, h2⟩
theorem Ow.de {α : Type} {f : α → Value} {l : List α} {F : Nat → Prop} {H' : Array Obj} {lo : Nat} (hE : DEk F H H') (hS : ∀ k, A = some ⟨k, 0, none⟩ → F k) (h : Ow f H lo t A n c l) : Ow f H' lo t A n c l := by
  have h' := ow_iff.1 h
  refine ow_iff.2 ⟨h'.1, h'.2.imp id ?_⟩
  rintro ⟨g, cur, e, h1, hg, h2⟩
  exact ⟨g, cur, e, h1, (hE.block g (Array.getElem?_eq_some_iff.1 hg).1 (hS g e)).trans hg, h2⟩
theorem Ow.blt {α : Type} {f : α → Value} {l : List α} {lo : Nat} (h : Ow f H lo t A n c l) {k : Nat} (hk : A = some ⟨k, 0, none⟩) : k < H.size := by
  rcases (ow_iff.1 h).2 with ⟨e, _⟩ | ⟨g, cur, e, _, hg, _⟩
  · rw [e] at hk; cases hk
  · rw [e] at hk; cases hk; exact (Array.getElem?_eq_some_iff.1 hg).1
theorem dkO_fp {k : Nat} : (dkO t A n c l).fp k ↔ A = some ⟨k, 0, none⟩ := Iff.rfl
theorem dkO_p {H : Array Obj} : (dkO t A n c l).p H ↔ Ow u64v H 0 t A n c l := Iff.rfl
end
section
variable {P : Program} {N : Nat} {Q : Exit → Act → World → Prop} {σ : Store} {w : World} {ops : Array Oper} {d : Nat} {t : TypeId} {pos : String} {af : Array Edge} {rest : List Oper}
/-- a new list of words, all 0 -/
theorem TL.makeOw {S : Nat → Prop} {w0 : World} {L : List VB} {D : List DK} (hF : Fk S w0 w L D) {x y : Operand} {ty e : TypeId} [hT : USlice P ty e] {b1 : Nat} [hS : USize P e (.int .u64 0) 1 b1] {k k' : IntKind} {z1 z2 : Int} {n : Nat} [e1 : IsN z1 n] [e2 : IsN z2 n]
    (hx : look σ x = some (.int k z1)) (hy : look σ y = some (.int k' z2)) (hd : Nat.blt d N = true) (hc : b1 * n ≤ 281474976710656 ∧ n ≤ 9223372036854775807)
    (K : ∀ w' b, Fk S w0 w' L (dkO e (some ⟨b, 0, none⟩) n n (List.replicate n 0) :: D) → TL P N .seq ops Q rest ((d, .slice (some ⟨b, 0, none⟩) n n) :: σ) w') :
    TL P N .seq ops Q (⟨some d, .makeSlice ty x y, t, pos, af, none⟩ :: rest) σ w :=
  TL.makeU hx hy hd (Nat.le_refl _) hc fun w' b hb hB hE _ => K w' b (hF.addO hE (by
    have h := hB.ow (k := n) (c := n) (lo := w.heap.size) (by simp) (by simp) (by simp; unfold maxLen; omega) (by omega)
    simpa using h))
/-- a word stored into a list with a block of its own -/
theorem TL.storeOw {x y : Operand} {ty e : TypeId} {z0 : Value} {b1 : Nat} [hS : USize P ty z0 1 b1] {A : Option Addr} {n c k lo : Nat} {l : List Nat} {zu : Int} {u : Nat} [eu : IsN zu u]
    (hx : look σ x = some (.pointer (elemA A k))) (hy : look σ y = some (.int .u64 zu)) (hO : Ow u64v w.heap lo e A n c l) (hk : k < n)
    (K : ∀ w', Ow u64v w'.heap lo e A n c (l.set k u) → Exs (fun j => A = some ⟨j, 0, none⟩) w w' → TL P N .seq ops Q rest σ w') :
    TL P N .seq ops Q (⟨none, .store ty x y, t, pos, af, none⟩ :: rest) σ w := by
  obtain ⟨hl, h⟩ := ow_iff.1 hO
  rcases h with ⟨_, h0, _⟩ | ⟨g, cur, rfl, hlo, hg, hnc, hcm, hsz, htk⟩
  · omega
  · have hV : Vr w.heap g e cur.toList := by unfold Vr; simpa using hg
    have hlen : cur.toList.length = c := by simpa using hsz
    have hput := putO_set (k := k) (u64v u) (show k < cur.toList.length by omega)
    refine TL.storeV (b := g) (o := k) (e := e) (cs := cur.toList) (v := u64v u) (by rw [hx]; simp [elemA, add_mk]) (by rw [hy, eu.out]; rfl) rfl rfl hV hput fun w' hV' hu => K w' (ow_iff.2 ⟨by simpa using hl, .inr ⟨g, (cur.toList.set k (u64v u)).toArray, rfl, hlo, hV', hnc, hcm, by simp [hsz], ?_⟩⟩) (hu.exs.mono fun j _ e => by rw [e])
    simp only [List.take_set, htk]
    exact (List.map_set).symm
/-- one element appended to a list with a block of its own: in place, or in a new block -/
theorem TL.appendOwG {α : Type} {f : α → Value} {z : Value} (hf1 : ∀ u, (f u).oneCell' = true) (hzc : z.cells.size = 1) {x y : Operand} {ty e : TypeId} [hT : USlice P ty e] {b1 : Nat} [hS : USize P e z 1 b1] {A A' : Option Addr} {n c c' B lo : Nat} {l : List α} {u : α}
    (hx : look σ x = some (.slice A n c)) (hy : look σ y = some (.slice A' 1 c')) (hd : Nat.blt d N = true) (hO : Ow f w.heap lo e A n c l) (hs : Sl f w.heap B A' 1 c' [u])
    (hroom : (n + 1) * b1 ≤ 140737488355328 ∧ n + 1 ≤ 9223372036854775807)
    (K : ∀ w' A2 c2, Ow f w'.heap 0 e A2 (n + 1) c2 (l ++ [u]) → (A2 = A ∧ c2 = c ∧ Exs (fun j => A = some ⟨j, 0, none⟩) w w' ∨ (∀ k, A2 = some ⟨k, 0, none⟩ → w.heap.size ≤ k) ∧ Ext w w') → TL P N .seq ops Q rest ((d, .slice A2 (n + 1) c2) :: σ) w') :
    TL P N .seq ops Q (⟨some d, .call { callee := .builtin .append, args := #[x, y], argTypes := #[ty, ty] }, t, pos, af, none⟩ :: rest) σ w := by
  obtain ⟨i, hi, hz0, hsz, hby⟩ := hS.info
  obtain ⟨hl, h⟩ := ow_iff.1 hO
  rcases hs.mem with h0 | ⟨b', o, rfl, _, hm⟩
  · omega
  have hnews : ∀ j v, ([f u] : List Value)[j]? = some v → w.cell? ((⟨b', o, none⟩ : Addr).add j) = some v := fun j v hv => by
    have hj : j = 0 := by have := (List.getElem?_eq_some_iff.1 hv).1; simpa using this
    subst hj
    simp at hv
    subst hv
    rw [add_mk, cell_of_hcell]
    exact hm 0 u rfl
  have hE : ∀ o, Ext w (w.drew.alloc o) := fun o => ⟨rfl, rfl, rfl, by simp, fun k hk => heap_alloc_old w.drew _ (by simpa using hk)⟩
  have hone : ∀ v ∈ [f u], v.oneCell' = true := fun v hv => by rw [List.mem_singleton] at hv; subst hv; exact hf1 u
  rcases h with ⟨rfl, h0, h0'⟩ | ⟨g, cur, rfl, hlo, hg, hnc, hcm, hcs, htk⟩
  · subst h0 h0'
    have hl0 : l = [] := List.eq_nil_of_length_eq_zero hl
    subst hl0
    have hr := run_append_nil (P := P) w ty t e i _ hT.out hi hz0 ⟨b', o, none⟩ 1 c' [f u] (by simp [hsz]) hnews (by omega) (by omega) (by rw [hby]; omega)
    have hge := grownCap_ge w 1 0 e
    have hcm : grownCap w 1 0 e ≤ maxLen := grownCap_le_maxLen w 1 0 e (by unfold maxLen; omega)
    have hB : ∀ cap, 1 ≤ cap → cap ≤ maxLen → Ow f (w.drew.alloc (.cells (([f u] : List Value).toArray ++ Builtin.zeroCells z.cells (cap - 1)) e)).heap w.heap.size e (some ⟨w.heap.size, 0, none⟩) 1 cap [u] := by
      intro cap h1 h2
      refine ow_iff.2 ⟨rfl, .inr ⟨w.heap.size, _, rfl, Nat.le_refl _, heap_alloc_new w.drew _, h1, h2, ?_, ?_⟩⟩
      · simp [size_zeroCells, hzc]; omega
      · simp
    have hO2 := hB _ hge hcm
    refine TL.op (fun ρ hρ => ?_) hd (K _ _ _ hO2.at0 (.inr ⟨fun k hk => hO2.fresh k hk, hE _⟩))
    simp [execOp, resolve, invoke, builtin, hρ x _ hx, hρ y _ hy, hr]
  · have hlen : cur.toList.length = c := by simpa using hcs
    rcases Nat.lt_or_ge c (n + 1) with hcn | hcn
    · obtain rfl : n = c := by omega
      have holds : ∀ j v, (l.map f)[j]? = some v → w.cell? ((⟨g, 0, none⟩ : Addr).add j) = some v := by
        intro j v hv
        rw [add_mk, cell_of_hcell]
        unfold hcell
        rw [hg]
        rw [← htk, List.getElem?_take] at hv
        split at hv
        · simpa using hv
        · cases hv
      have hr := run_append_grow (P := P) w ty t e i _ hT.out hi hz0 ⟨g, 0, none⟩ n n (l.map f) (by simp [hl, hsz]) holds ⟨b', o, none⟩ 1 c' [f u] (by simp [hsz]) hnews (by omega) (by omega) (growslice_fits (by omega) (by rw [hby]; exact hroom.1))
      have hge := grownCap_ge w (n + 1) n e
      have hcm2 : grownCap w (n + 1) n e ≤ maxLen := grownCap_le_maxLen w (n + 1) n e (by unfold maxLen; omega)
      have hB : ∀ cap, n + 1 ≤ cap → cap ≤ maxLen → Ow f (w.drew.alloc (.cells ((l.map f).toArray ++ ([f u] : List Value).toArray ++ Builtin.zeroCells z.cells (cap - (n + 1))) e)).heap w.heap.size e (some ⟨w.heap.size, 0, none⟩) (n + 1) cap (l ++ [u]) := by
        intro cap h1 h2
        refine ow_iff.2 ⟨by simp [hl], .inr ⟨w.heap.size, _, rfl, Nat.le_refl _, heap_alloc_new w.drew _, h1, h2, ?_, ?_⟩⟩
        · simp [size_zeroCells, hzc, hl]; omega
        · simp only [Array.toList_append, List.toList_toArray]
          rw [List.take_left' (by simp [hl])]
          simp
      have hO2 := hB _ hge hcm2
      refine TL.op (fun ρ hρ => ?_) hd (K _ _ _ hO2.at0 (.inr ⟨fun k hk => hO2.fresh k hk, hE _⟩))
      simp [execOp, resolve, invoke, builtin, hρ x _ hx, hρ y _ hy, hr]
    · have hr := run_append_room (P := P) w ty t e i hT.out hi g n c cur hg ⟨b', o, none⟩ 1 c' [f u] (by simp [hsz]) hnews hone hcn (by simp [hsz]; omega)
      have hV : Vr w.heap g e cur.toList := by unfold Vr; simpa using hg
      rw [hsz] at hr
      simp only [Nat.mul_one, List.length_singleton] at hr
      have hO2 : Ow f (w.setRow g (cur.toList.take n ++ [f u] ++ cur.toList.drop (n + 1)).toArray).heap 0 e (some ⟨g, 0, none⟩) (n + 1) c (l ++ [u]) := by
        refine ow_iff.2 ⟨by simp [hl], .inr ⟨g, _, rfl, Nat.zero_le _, setRow_heap w g _ _ e _ (by simpa using hg), hcn, hcm, by simp [hlen]; omega, ?_⟩⟩
        rw [htk]
        simp only [List.toList_toArray]
        rw [List.take_left' (by simp [hl])]
        simp
      refine TL.op (fun ρ hρ => ?_) hd (K _ _ _ hO2 (.inl ⟨rfl, rfl, (upd_setRow _ _ _).exs.mono fun j _ e => by rw [e]⟩))
      simp [execOp, resolve, invoke, builtin, hρ x _ hx, hρ y _ hy, hr]
/-- one word appended to a list with a block of its own: in place, or in a new block -/
theorem TL.appendOw {x y : Operand} {ty e : TypeId} [hT : USlice P ty e] {b1 : Nat} [hS : USize P e (.int .u64 0) 1 b1] {A A' : Option Addr} {n c c' B lo : Nat} {l : List Nat} {u : Nat}
    (hx : look σ x = some (.slice A n c)) (hy : look σ y = some (.slice A' 1 c')) (hd : Nat.blt d N = true) (hO : Ow u64v w.heap lo e A n c l) (hs : Sl u64v w.heap B A' 1 c' [u])
    (hroom : (n + 1) * b1 ≤ 140737488355328 ∧ n + 1 ≤ 9223372036854775807)
    (K : ∀ w' A2 c2, Ow u64v w'.heap 0 e A2 (n + 1) c2 (l ++ [u]) → (A2 = A ∧ c2 = c ∧ Exs (fun j => A = some ⟨j, 0, none⟩) w w' ∨ (∀ k, A2 = some ⟨k, 0, none⟩ → w.heap.size ≤ k) ∧ Ext w w') → TL P N .seq ops Q rest ((d, .slice A2 (n + 1) c2) :: σ) w') :
    TL P N .seq ops Q (⟨some d, .call { callee := .builtin .append, args := #[x, y], argTypes := #[ty, ty] }, t, pos, af, none⟩ :: rest) σ w :=
  TL.appendOwG (f := u64v) (fun _ => rfl) rfl hx hy hd hO hs hroom K
end
section
variable {α : Type} {f : α → Value} {H : Array Obj} {t : TypeId} {A : Option Addr} {n c : Nat} {l : List α}
/-- a list, of whatever elements of one cell, at the head of a block of its own -/
def dkOG {α : Type} (f : α → Value) (t : TypeId) (A : Option Addr) (n c : Nat) (l : List α) : DK where
  p H := Ow f H 0 t A n c l
  fp k := A = some ⟨k, 0, none⟩
  lt H k h hk := h.blt hk
  st H H' hd h := h.de hd fun k hk => hk
theorem dkOG_fp {k : Nat} : (dkOG f t A n c l).fp k ↔ A = some ⟨k, 0, none⟩ := Iff.rfl
theorem dkOG_p {H : Array Obj} : (dkOG f t A n c l).p H ↔ Ow f H 0 t A n c l := Iff.rfl
theorem Fk.og {S : Nat → Prop} {w0 w : World} {L : List VB} {D : List DK} (h : Fk S w0 w L D) (hm : dkOG f t A n c l ∈ D) : Ow f w.heap 0 t A n c l := h.data _ hm
theorem Fk.appendG {S : Nat → Prop} {w0 w w' : World} {L : List VB} {D D' : List DK} {A2 : Option Addr} {n2 c2 : Nat} {l2 : List α} (h : Fk S w0 w L D) (hS : SetD D (dkOG f t A n c l) (dkOG f t A2 n2 c2 l2) D') (hO : Ow f w'.heap 0 t A2 n2 c2 l2)
    (hc : A2 = A ∧ c2 = c ∧ Exs (fun j => A = some ⟨j, 0, none⟩) w w' ∨ (∀ k, A2 = some ⟨k, 0, none⟩ → w.heap.size ≤ k) ∧ Ext w w') : Fk S w0 w' L D' := by
  refine h.write hS (hc.elim (fun h => h.2.2) (fun h => .of h.2)) hO fun k hk => ?_
  rcases hc with h | h
  · exact .inl (by rw [← h.1]; exact hk)
  · exact .inr (h.1 k hk)
/-- a block and a fact to begin with, of S -/
theorem Fk.own1 {S : Nat → Prop} {w : World} {b : Nat} {t : TypeId} {cs : List Value} (d : DK) (hV : Vr w.heap b t cs) (hb : S b) (hp : d.p w.heap) (hf : ∀ k, d.fp k → S k) (hne : ¬ d.fp b) : Fk S w w [⟨b, t, cs⟩] [d] :=
  ⟨Exs.refl _ _, fun v hv => by rw [List.mem_singleton] at hv; rw [hv]; exact ⟨.inr hb, hV⟩, List.pairwise_singleton _ _, fun x hx => by rw [List.mem_singleton] at hx; rw [hx]; exact hp, fun v hv x hx => by rw [List.mem_singleton] at hv hx; rw [hv, hx]; exact hne, List.pairwise_singleton _ _, fun x hx k hk => by rw [List.mem_singleton] at hx; rw [hx] at hk; exact .inr (hf k hk)⟩
end
attribute [irreducible] dkO dkOG
end Go.Eng
