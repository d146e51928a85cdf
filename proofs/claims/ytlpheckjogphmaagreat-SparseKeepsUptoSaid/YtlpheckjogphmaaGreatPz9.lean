/- The engine: frames for statements about memory: what a walk may write lies in a set S, or is its own; facts on data name their blocks. Layer 10: integers in blocks of their own, written over: zint.Least with its block, the law's spoil; All and its iterator. Layer 10: the iterator of All. Frames carried over rounds that write over words of a block of their own. Integers whose words lie in new blocks: what stands of them where older words are written over; each and Lines told so. The law's Roomy: a list with marked room behind (KeepA's, for other seats). Statements about memory: the book's marks: sign, holds (KeepA's, for other seats). Statements about memory: the book's words (KeepB's, for other seats). Lists of structs at the head of a block of their own, spare room behind them: stores and appends. -/
import Derived.Test.YtlpheckjogphmaaGreatPz2
import Derived.Test.YtlpheckjogphmaaGreatPz8
import Derived.Test.YtlpheckjogphmaaGreatPz5
import Derived.Test.YtlpheckjogphmaaGreatPz4
import Derived.Test.YtlpheckjogphmaaGreatPz6
set_option maxHeartbeats 8000000
set_option linter.unusedVariables false
set_option linter.unusedSimpArgs false
namespace Go.Eng
open Go Go.RowKit
theorem Vr.exs {S : Nat → Prop} {w w' : World} {b : Nat} {t : TypeId} {cs : List Value} (hE : Exs S w w') (hS : ¬ S b) (h : Vr w.heap b t cs) : Vr w'.heap b t cs := (hE.block b h.lt hS).trans h
theorem Sl.exs {α : Type} {f : α → Value} {S : Nat → Prop} {w w' : World} {B n c : Nat} {A : Option Addr} {l : List α} (hE : Exs S w w') (hS : ∀ k, fpA A n k → ¬ S k) (h : Sl f w.heap B A n c l) : Sl f w'.heap B A n c l := by
  refine ⟨h.len, h.cap, ?_⟩
  rcases h.mem with h0 | ⟨b, o, e, hlt, hm⟩
  · exact .inl h0
  · rcases Nat.eq_zero_or_pos n with h0 | h0
    · exact .inl h0
    · have hl : 0 < l.length := by have := h.len; omega
      have hb := hcell_lt (hm 0 l[0] (List.getElem?_eq_getElem hl))
      exact .inr ⟨b, o, e, hlt, fun j x hx => hcell_eq (hE.block b hb (hS b ⟨h0, o, e⟩)) (hm j x hx)⟩
structure DEk (F : Nat → Prop) (H H' : Array Obj) : Prop where
  size : H.size ≤ H'.size
  block : ∀ k, k < H.size → F k → H'[k]? = H[k]?
structure DK where
  p : Array Obj → Prop
  fp : Nat → Prop
  lt : ∀ H k, p H → fp k → k < H.size
  st : ∀ H H', DEk fp H H' → p H → p H'
structure Fk (S : Nat → Prop) (w0 w : World) (L : List VB) (D : List DK) : Prop where
  exs : Exs S w0 w
  vars : ∀ v ∈ L, (w0.heap.size ≤ v.b ∨ S v.b) ∧ Vr w.heap v.b v.t v.cs
  dist : L.Pairwise (fun x y => x.b ≠ y.b)
  data : ∀ d ∈ D, d.p w.heap
  apart : ∀ v ∈ L, ∀ d ∈ D, ¬ d.fp v.b
  dd : D.Pairwise (fun d e => ∀ k, d.fp k → ¬ e.fp k)
  own : ∀ d ∈ D, ∀ k, d.fp k → w0.heap.size ≤ k ∨ S k
section
variable {S : Nat → Prop} {w0 w w' : World} {L L' : List VB} {D D' : List DK} {b : Nat} {t : TypeId} {cs r : List Value}
theorem Fk.refl (S : Nat → Prop) (w : World) : Fk S w w [] [] := ⟨Exs.refl _ _, fun _ h => (by cases h), List.Pairwise.nil, fun _ h => (by cases h), fun _ h => (by cases h), List.Pairwise.nil, fun _ h => (by cases h)⟩
theorem Fk.ext (h : Fk (fun _ => False) w0 w L D) : Ext w0 w := h.exs.ext0
theorem Fk.get (h : Fk S w0 w L D) {d : DK} (hd : d ∈ D) : d.p w.heap := h.data d hd
theorem Fk.exts (h : Fk S w0 w L D) (hE : Ext w w') : Fk S w0 w' L D :=
  ⟨h.exs.trans (.of hE), fun v hv => ⟨(h.vars v hv).1, (h.vars v hv).2.ext hE⟩, h.dist, fun d hd => d.st _ _ ⟨hE.size, fun k hk _ => hE.block k hk⟩ (h.data d hd), h.apart, h.dd, h.own⟩
theorem Fk.add0 (h : Fk S w0 w L D) (d : DK) (hd : d.p w.heap) (hn : ∀ k, ¬ d.fp k) : Fk S w0 w L (d :: D) :=
  ⟨h.exs, h.vars, h.dist, fun x hx => (List.mem_cons.1 hx).elim (fun e => by rw [e]; exact hd) (h.data x), fun v hv x hx => (List.mem_cons.1 hx).elim (fun e => by rw [e]; exact hn _) (h.apart v hv x), List.pairwise_cons.2 ⟨fun e _ k hk => absurd hk (hn k), h.dd⟩, fun x hx k hk => (List.mem_cons.1 hx).elim (fun e => by rw [e] at hk; exact absurd hk (hn k)) (fun hx => h.own x hx k hk)⟩
theorem Fk.addNew (h : Fk S w0 w L D) (hE : Ext w w') (d : DK) (hd : d.p w'.heap) (hn : ∀ k, d.fp k → w.heap.size ≤ k) : Fk S w0 w' L (d :: D) := by
  have h1 := h.exts hE
  refine ⟨h1.exs, h1.vars, h1.dist, fun x hx => ?_, fun v hv x hx => ?_, List.pairwise_cons.2 ⟨fun e he k hk hek => ?_, h1.dd⟩, fun x hx k hk => ?_⟩
  · rcases List.mem_cons.1 hx with rfl | hx
    · exact hd
    · exact h1.data x hx
  · rcases List.mem_cons.1 hx with rfl | hx
    · intro hk; have q1 := (h.vars v hv).2.lt; have q2 := hn _ hk; omega
    · exact h1.apart v hv x hx
  · have q1 := e.lt _ _ (h.data e he) hek; have q2 := hn _ hk; omega
  · rcases List.mem_cons.1 hx with rfl | hx
    · exact .inl (Nat.le_trans h.exs.size (hn _ hk))
    · exact h1.own x hx k hk
theorem Fk.var (h : Fk S w0 w L D) (hv : InV L b t cs) : Vr w.heap b t cs := (h.vars _ hv.mem).2
theorem Fk.new (h : Fk S w0 w L D) (hb : b = w.heap.size) (hV : Vr w'.heap b t cs) (hE : Ext w w') : Fk S w0 w' (⟨b, t, cs⟩ :: L) D := by
  have h1 := h.exts hE
  refine ⟨h1.exs, fun v hv => ?_, List.pairwise_cons.2 ⟨fun v hv e => ?_, h.dist⟩, h1.data, fun v hv d hd => ?_, h1.dd, h1.own⟩
  · rcases List.mem_cons.1 hv with rfl | hv
    · exact ⟨.inl (by rw [hb]; exact h.exs.size), hV⟩
    · exact h1.vars v hv
  · have := (h.vars v hv).2.lt
    simp only at e
    omega
  · rcases List.mem_cons.1 hv with rfl | hv
    · intro hk
      have := d.lt _ _ (h.data d hd) hk
      simp only at this
      omega
    · exact h.apart v hv d hd
theorem Fk.store (h : Fk S w0 w L D) (hS : SetV L b t cs r L') (hu : Upd b w w') (hV : Vr w'.heap b t r) : Fk S w0 w' L' D := by
  have hb := (h.vars _ hS.inV.mem).1
  have hap := fun d hd => h.apart _ hS.inV.mem d hd
  refine ⟨h.exs.then hu.exs fun i hi e => ?_, ?_, ?_, fun d hd => d.st _ _ ⟨Nat.le_of_eq hu.size.symm, fun k _ hk => hu.block k fun e => hap d hd (e ▸ hk)⟩ (h.data d hd), ?_, h.dd, h.own⟩
  · subst e
    rcases hb with hb | hb
    · simp only at hb; omega
    · exact hb
  · intro v hv
    obtain ⟨pre, post, e1, e2⟩ := hS.split
    subst e1 e2
    have hdist := h.dist
    rw [List.pairwise_append] at hdist
    have hq : ∀ v, v ∈ pre ∨ v ∈ post → (w0.heap.size ≤ v.b ∨ S v.b) ∧ Vr w'.heap v.b v.t v.cs := by
      intro v hv
      have hm : v ∈ pre ++ (⟨b, t, cs⟩ : VB) :: post := by
        rcases hv with hv | hv
        · exact List.mem_append_left _ hv
        · exact List.mem_append_right _ (List.mem_cons_of_mem _ hv)
      have hne : v.b ≠ b := by
        rcases hv with hv | hv
        · exact hdist.2.2 v hv _ (List.mem_cons_self ..)
        · exact fun e => (List.pairwise_cons.1 hdist.2.1).1 v hv e.symm
      exact ⟨(h.vars v hm).1, (h.vars v hm).2.upd hu hne⟩
    rcases List.mem_append.1 hv with hv | hv
    · exact hq v (.inl hv)
    · rcases List.mem_cons.1 hv with rfl | hv
      · exact ⟨hb, hV⟩
      · exact hq v (.inr hv)
  · obtain ⟨pre, post, e1, e2⟩ := hS.split
    subst e1 e2
    have hdist := h.dist
    rw [List.pairwise_append, List.pairwise_cons] at hdist ⊢
    refine ⟨hdist.1, ⟨fun v hv => hdist.2.1.1 v hv, hdist.2.1.2⟩, fun x hx y hy => ?_⟩
    rcases List.mem_cons.1 hy with rfl | hy
    · exact hdist.2.2 x hx ⟨b, t, cs⟩ (List.mem_cons_self ..)
    · exact hdist.2.2 x hx y (List.mem_cons_of_mem _ hy)
  · intro v hv d hd
    obtain ⟨pre, post, e1, e2⟩ := hS.split
    subst e1 e2
    rcases List.mem_append.1 hv with hv | hv
    · exact h.apart v (List.mem_append_left _ hv) d hd
    · rcases List.mem_cons.1 hv with rfl | hv
      · exact hap d hd
      · exact h.apart v (List.mem_append_right _ (List.mem_cons_of_mem _ hv)) d hd
theorem Fk.weak (h : Fk S w0 w L' D') (hL : L.Sublist L') (hD : D.Sublist D') : Fk S w0 w L D :=
  ⟨h.exs, fun v hv => h.vars v (hL.subset hv), h.dist.sublist hL, fun d hd => h.data d (hD.subset hd), fun v hv d hd => h.apart v (hL.subset hv) d (hD.subset hd), h.dd.sublist hD, fun d hd => h.own d (hD.subset hd)⟩
inductive SetD : List DK → DK → DK → List DK → Prop
  | head {D : List DK} {d e : DK} : SetD (d :: D) d e (e :: D)
  | tail {x d e : DK} {D D' : List DK} : SetD D d e D' → SetD (x :: D) d e (x :: D')
theorem SetD.mem {D D' : List DK} {d e : DK} (h : SetD D d e D') : d ∈ D := by
  induction h with
  | head => exact List.mem_cons_self ..
  | tail _ ih => exact List.mem_cons_of_mem _ ih
theorem SetD.split {D D' : List DK} {d e : DK} (h : SetD D d e D') : ∃ pre post, D = pre ++ d :: post ∧ D' = pre ++ e :: post := by
  induction h with
  | head => exact ⟨[], _, rfl, rfl⟩
  | @tail x d e D D' _ ih =>
    obtain ⟨pre, post, h1, h2⟩ := ih
    exact ⟨x :: pre, post, by rw [h1]; rfl, by rw [h2]; rfl⟩
theorem Fk.write (h : Fk S w0 w L D) {d e : DK} (hS : SetD D d e D') (hE : Exs d.fp w w') (he : e.p w'.heap) (hfp : ∀ k, e.fp k → d.fp k ∨ w.heap.size ≤ k) : Fk S w0 w' L D' := by
  have hd := hS.mem
  have hst : ∀ x ∈ D, (∀ k, x.fp k → ¬ d.fp k) → x.p w'.heap := fun x hx hap => x.st _ _ ⟨hE.size, fun k hk hf => hE.block k hk (hap k hf)⟩ (h.data x hx)
  obtain ⟨pre, post, e1, e2⟩ := hS.split
  subst e1 e2
  have hdd := h.dd
  rw [List.pairwise_append, List.pairwise_cons] at hdd
  have hot : ∀ x, x ∈ pre ∨ x ∈ post → x ∈ pre ++ d :: post ∧ ∀ k, x.fp k → ¬ d.fp k := fun x hx => by
    rcases hx with hx | hx
    · exact ⟨List.mem_append_left _ hx, fun k hk => hdd.2.2 x hx d (List.mem_cons_self ..) k hk⟩
    · exact ⟨List.mem_append_right _ (List.mem_cons_of_mem _ hx), fun k hk hk' => hdd.2.1.1 x hx k hk' hk⟩
  have hne : ∀ x, x ∈ pre ∨ x ∈ post → ∀ k, x.fp k → ¬ e.fp k := fun x hx k hk hk' => by
    rcases hfp k hk' with h1 | h1
    · exact (hot x hx).2 k hk h1
    · have := x.lt _ _ (h.data x (hot x hx).1) hk; omega
  refine ⟨h.exs.then hE fun i hi hf => (h.own d hd i hf).resolve_left (by omega), fun v hv => ⟨(h.vars v hv).1, (h.vars v hv).2.exs hE (h.apart v hv d hd)⟩, h.dist, fun x hx => ?_, fun v hv x hx => ?_, ?_, fun x hx k hk => ?_⟩
  · rcases List.mem_append.1 hx with hx | hx
    · exact hst x (hot x (.inl hx)).1 (hot x (.inl hx)).2
    · rcases List.mem_cons.1 hx with rfl | hx
      · exact he
      · exact hst x (hot x (.inr hx)).1 (hot x (.inr hx)).2
  · rcases List.mem_append.1 hx with hx | hx
    · exact h.apart v hv x (hot x (.inl hx)).1
    · rcases List.mem_cons.1 hx with rfl | hx
      · intro hk
        rcases hfp _ hk with h1 | h1
        · exact h.apart v hv d hd h1
        · have := (h.vars v hv).2.lt; omega
      · exact h.apart v hv x (hot x (.inr hx)).1
  · rw [List.pairwise_append, List.pairwise_cons]
    refine ⟨hdd.1, ⟨fun x hx k hk hk' => hne x (.inr hx) k hk' hk, hdd.2.1.2⟩, fun x hx y hy k hk => ?_⟩
    rcases List.mem_cons.1 hy with rfl | hy
    · exact hne x (.inl hx) k hk
    · exact hdd.2.2 x hx y (List.mem_cons_of_mem _ hy) k hk
  · rcases List.mem_append.1 hx with hx | hx
    · exact h.own x (hot x (.inl hx)).1 k hk
    · rcases List.mem_cons.1 hx with rfl | hx
      · rcases hfp k hk with h1 | h1
        · exact h.own d hd k h1
        · exact .inl (Nat.le_trans h.exs.size h1)
      · exact h.own x (hot x (.inr hx)).1 k hk
theorem Fk.drop (h : Fk S w0 w L D) (D1 D2 : List DK) (h1 : ∀ d ∈ D1, d ∈ D) (h2 : D2.Sublist D) {F : Nat → Prop} (hE : Exs F w w') (hF : ∀ k, F k → ∃ d ∈ D1, d.fp k) (hap : ∀ x ∈ D2, ∀ d ∈ D1, ∀ k, x.fp k → ¬ d.fp k) : Fk S w0 w' L D2 := by
  have hs := h2.subset
  refine ⟨h.exs.then hE fun i hi hf => ?_, fun v hv => ⟨(h.vars v hv).1, (h.vars v hv).2.exs hE fun hk => ?_⟩, h.dist, fun x hx => x.st _ _ ⟨hE.size, fun k hk hf => hE.block k hk fun he => ?_⟩ (h.data x (hs hx)), fun v hv x hx => h.apart v hv x (hs hx), h.dd.sublist h2, fun x hx => h.own x (hs hx)⟩
  · obtain ⟨d, hd, hk⟩ := hF i hf
    exact (h.own d (h1 d hd) i hk).resolve_left (by omega)
  · obtain ⟨d, hd, hk⟩ := hF _ hk
    exact h.apart v hv d (h1 d hd) hk
  · obtain ⟨d, hd, hk'⟩ := hF _ he
    exact hap x hx d hd k hf hk'
inductive Mrg : List DK → List DK → List DK → Prop
  | nil : Mrg [] [] []
  | l {x : DK} {D1 D2 D : List DK} : Mrg D1 D2 D → Mrg (x :: D1) D2 (x :: D)
  | r {x : DK} {D1 D2 D : List DK} : Mrg D1 D2 D → Mrg D1 (x :: D2) (x :: D)
theorem Mrg.left {D1 D2 D : List DK} (h : Mrg D1 D2 D) : D1.Sublist D := by
  induction h with
  | nil => exact List.Sublist.refl _
  | l _ ih => exact ih.cons_cons _
  | r _ ih => exact ih.cons _
theorem Mrg.right {D1 D2 D : List DK} (h : Mrg D1 D2 D) : D2.Sublist D := by
  induction h with
  | nil => exact List.Sublist.refl _
  | l _ ih => exact ih.cons _
  | r _ ih => exact ih.cons_cons _
theorem Mrg.apart {D1 D2 D : List DK} (h : Mrg D1 D2 D) (hp : D.Pairwise (fun d e => ∀ k, d.fp k → ¬ e.fp k)) : ∀ x ∈ D2, ∀ d ∈ D1, ∀ k, x.fp k → ¬ d.fp k := by
  induction h with
  | nil => intro x hx; cases hx
  | @l y D1 D2 D hm ih =>
    rw [List.pairwise_cons] at hp
    intro x hx d hd k hk hk'
    rcases List.mem_cons.1 hd with rfl | hd
    · exact hp.1 x (hm.right.subset hx) k hk' hk
    · exact ih hp.2 x hx d hd k hk hk'
  | @r y D1 D2 D hm ih =>
    rw [List.pairwise_cons] at hp
    intro x hx d hd k hk hk'
    rcases List.mem_cons.1 hx with rfl | hx
    · exact hp.1 d (hm.left.subset hd) k hk hk'
    · exact ih hp.2 x hx d hd k hk hk'
theorem Fk.two (h : Fk S w0 w L D) {D1 D2 : List DK} {d e : DK} (hD : D = D1 ++ d :: D2) (he : e ∈ D1 ∨ e ∈ D2) : ∀ k, d.fp k → ¬ e.fp k := by
  subst hD
  have hdd := h.dd
  rw [List.pairwise_append, List.pairwise_cons] at hdd
  intro k hk hk'
  rcases he with he | he
  · exact hdd.2.2 e he d (List.mem_cons_self ..) k hk' hk
  · exact hdd.2.1.1 e he k hk hk'
theorem kmemH {d : DK} {D : List DK} : d ∈ d :: D := List.mem_cons_self ..
theorem kmemT {d x : DK} {D : List DK} (h : d ∈ D) : d ∈ x :: D := List.mem_cons_of_mem _ h
end
/-! ### Steps -/
section
variable {P : Program} {N : Fm} {Q : Exit → Act → World → Prop} {σ : Store} {S : Nat → Prop} {w0 w : World} {L : List VB} {D : List DK} {ops : Array Oper} {d : Nat} {t : TypeId} {pos : String} {af : Array Edge} {rest : List Oper} {l : List Oper}
theorem T.regionFk (hF : Fk S w0 w L D) (id : Nat) (f : Nat) (t : Rt) (hm : P.follows .mixedOrders = true) (hB : treeB l.toArray f t = true)
    (h : ∀ w1 : World, Fk S w0 w1 L D → TF P N l Q (fun w' => Fk S w0 w' L D) f t σ w1) : T P N (.region id l.toArray true) Q σ w :=
  T.regionF _ f t hm hB (hF.exts (ext_drewN w 1)) (h _ (hF.exts (ext_drewN w 1)))
theorem TL.boxAFk (hF : Fk S w0 w L D) {x : Operand} {ty : TypeId} {cs : List Value} (hx : look σ x = some (.agg cs.toArray)) (hd : Nat.blt d N.n = true)
    (K : ∀ w' b, Fk S w0 w' (⟨b, ty, cs⟩ :: L) D → TL P N .seq ops Q rest ((d, .pointer (some ⟨b, 0, none⟩)) :: σ) w') :
    TL P N .seq ops Q (⟨some d, .box ty x, t, pos, af, none⟩ :: rest) σ w :=
  TL.boxA hx hd fun w' b hb hV hE _ => K w' b (hF.new hb hV hE)
theorem TL.allocFk (hF : Fk S w0 w L D) {ty : TypeId} {z : Value} {sz b1 : Nat} [hS : USize P ty z sz b1] {cs : List Value} (hz : z.cells.toList = cs) (hd : Nat.blt d N.n = true)
    (K : ∀ w' b, Fk S w0 w' (⟨b, ty, cs⟩ :: L) D → TL P N .seq ops Q rest ((d, .pointer (some ⟨b, 0, none⟩)) :: σ) w') :
    TL P N .seq ops Q (⟨some d, .alloc ty, t, pos, af, none⟩ :: rest) σ w :=
  TL.alloc hd fun w' b hb hV hE _ => K w' b (hF.new hb (by rw [← hz]; exact hV) hE)
theorem TL.storeAFk (hF : Fk S w0 w L D) {x y : Operand} {ty e : TypeId} {z : Value} {sz b1 : Nat} [hS : USize P ty z sz b1] {b o : Nat} {cs r vs : List Value} {L' : List VB} (hx : look σ x = some (.pointer (some ⟨b, o, none⟩))) (hy : look σ y = some (.agg vs.toArray))
    (hsz : Nat.beq vs.length sz = true) (h1 : vs.all (·.oneCell') = true) (h : SetV L b e cs r L' ∧ putO cs o vs = some r) (hc : True = True)
    (K : ∀ w', Fk S w0 w' L' D → TL P N .seq ops Q rest σ w') : TL P N .seq ops Q (⟨none, .store ty x y, t, pos, af, none⟩ :: rest) σ w :=
  TL.storeVA hx hy hsz h1 (hF.var h.1.inV) h.2 fun w' h1 h2 => K w' (hF.store h.1 h2 h1)
theorem TL.storeFk (hF : Fk S w0 w L D) {x y : Operand} {ty e : TypeId} {z : Value} {b1 : Nat} [hS : USize P ty z 1 b1] {b o : Nat} {cs r : List Value} {v : Value} {L' : List VB} (hx : look σ x = some (.pointer (some ⟨b, o, none⟩))) (hy : look σ y = some v) (hvs : v.cells.toList = [v]) (h1 : v.oneCell' = true) (h : SetV L b e cs r L' ∧ putO cs o [v] = some r) (hc : True = True)
    (K : ∀ w', Fk S w0 w' L' D → TL P N .seq ops Q rest σ w') : TL P N .seq ops Q (⟨none, .store ty x y, t, pos, af, none⟩ :: rest) σ w :=
  TL.storeV hx hy hvs h1 (hF.var h.1.inV) h.2 fun w' h1 h2 => K w' (hF.store h.1 h2 h1)
end
section
variable {P : Program} {σ : Store} {d : Option Tmp} {t : TypeId} {pos : String} {af : Array Edge} {gd : Option (Nat × Bool)} {S : Nat → Prop} {w0 w : World} {L : List VB} {D : List DK}
theorem ev_loadFk (hF : Fk S w0 w L D) {x : Operand} {ty e : TypeId} [hO : UOne P ty] {b o : Nat} {cs : List Value} {v : Value} (hx : look σ x = some (.pointer (some ⟨b, o, none⟩))) (h : InV L b e cs ∧ nthV cs o = some v) : Ev P σ w.heap ⟨d, .load ty x, t, pos, af, gd⟩ v := ev_loadV hx (hF.var h.1) h.2
end
/-! ### Lists of words that have a block of their own -/
theorem putO_set : ∀ {cs : List Value} {k : Nat} (v : Value), k < cs.length → putO cs k [v] = some (cs.set k v)
  | [], k, v, h => by simp at h
  | a :: cs, 0, v, h => by simp [putO]
  | a :: cs, k + 1, v, h => by
    have := putO_set (cs := cs) (k := k) v (by simpa using h)
    simp only [putO, this, List.set_cons_succ]
theorem ow_iff {α : Type} {f : α → Value} {H : Array Obj} {lo : Nat} {t : TypeId} {A : Option Addr} {n c : Nat} {l : List α} : Ow f H lo t A n c l ↔ l.length = n ∧ ((A = none ∧ n = 0 ∧ c = 0) ∨ ∃ g cur, A = some ⟨g, 0, none⟩ ∧ lo ≤ g ∧ H[g]? = some (.cells cur t (0, 0)) ∧ n ≤ c ∧ c ≤ maxLen ∧ cur.size = c ∧ cur.toList.take n = l.map f) := by unfold Ow; exact Iff.rfl
section
variable {H : Array Obj} {t : TypeId} {A : Option Addr} {n c : Nat} {l : List Nat}
def dkO (t : TypeId) (A : Option Addr) (n c : Nat) (l : List Nat) : DK where
  p H := Ow u64v H 0 t A n c l
  fp k := A = some ⟨k, 0, none⟩
  lt H k h hk := by
    rcases (ow_iff.1 h).2 with ⟨e, _⟩ | ⟨g, cur, e, _, hg, _⟩
    · rw [e] at hk; cases hk
    · rw [e] at hk; cases hk; exact (Array.getElem?_eq_some_iff.1 hg).1
  st H H' hd h := by
    have h' := ow_iff.1 h
    refine ow_iff.2 ⟨h'.1, h'.2.imp id ?_⟩
    rintro ⟨g, cur, e, h1, hg, h2⟩
    exact ⟨g, cur, e, h1, (hd.block g (Array.getElem?_eq_some_iff.1 hg).1 e).trans hg, h2⟩
theorem Ow.fresh {α : Type} {f : α → Value} {l : List α} {lo : Nat} (h : Ow f H lo t A n c l) (k : Nat) (hk : A = some ⟨k, 0, none⟩) : lo ≤ k := by
  rcases (ow_iff.1 h).2 with ⟨e, _⟩ | ⟨g, cur, e, h1, _⟩
  · rw [e] at hk; cases hk
  · rw [e] at hk; cases hk; exact h1
theorem Ow.at0 {α : Type} {f : α → Value} {l : List α} {lo : Nat} (h : Ow f H lo t A n c l) : Ow f H 0 t A n c l := h.mono (Nat.zero_le _)
theorem Fk.o {S : Nat → Prop} {w0 w : World} {L : List VB} {D : List DK} (h : Fk S w0 w L D) (hm : dkO t A n c l ∈ D) : Ow u64v w.heap 0 t A n c l := h.data _ hm
theorem Fk.sl {S : Nat → Prop} {w0 w : World} {L : List VB} {D : List DK} (h : Fk S w0 w L D) (hm : dkO t A n c l ∈ D) : Sl u64v w.heap w.heap.size A n c l := (h.o hm).sl (Nat.le_refl _)
theorem Fk.re {S : Nat → Prop} {w0 w : World} {L : List VB} {D : List DK} (h : Fk S w0 w L D) (D' : List DK) (hp : ∀ d ∈ D', d.p w.heap) (hf : ∀ d ∈ D', ∀ k, d.fp k → ∃ e ∈ D, e.fp k) (hdd : D'.Pairwise (fun d e => ∀ k, d.fp k → ¬ e.fp k)) : Fk S w0 w L D' :=
  ⟨h.exs, h.vars, h.dist, hp, fun v hv d hd hk => by obtain ⟨e, he, hk'⟩ := hf d hd _ hk; exact h.apart v hv e he hk', hdd, fun d hd k hk => by obtain ⟨e, he, hk'⟩ := hf d hd _ hk; exact h.own e he k hk'⟩
theorem Fk.own0 {S : Nat → Prop} {w : World} (d : DK) (hp : d.p w.heap) (hf : ∀ k, d.fp k → S k) : Fk S w w [] [d] :=
  ⟨Exs.refl _ _, fun _ h => (by cases h), List.Pairwise.nil, fun x hx => by rw [List.mem_singleton] at hx; rw [hx]; exact hp, fun _ h => (by cases h), List.pairwise_singleton _ _, fun x hx k hk => by rw [List.mem_singleton] at hx; rw [hx] at hk; exact .inr (hf k hk)⟩
theorem Ow.exs {α : Type} {f : α → Value} {l : List α} {S : Nat → Prop} {w w' : World} {lo : Nat} (hE : Exs S w w') (hS : ∀ k, A = some ⟨k, 0, none⟩ → ¬ S k) (h : Ow f w.heap lo t A n c l) : Ow f w'.heap lo t A n c l := by
  have h' := ow_iff.1 h
  refine ow_iff.2 ⟨h'.1, h'.2.imp id ?_⟩
  rintro ⟨g, cur, e, h1, hg, h2⟩
  exact ⟨g, cur, e, h1, (hE.block g (Array.getElem?_eq_some_iff.1 hg).1 (hS g e)).trans hg, h2⟩
theorem Ow.de {α : Type} {f : α → Value} {l : List α} {F : Nat → Prop} {H' : Array Obj} {lo : Nat} (hE : DEk F H H') (hS : ∀ k, A = some ⟨k, 0, none⟩ → F k) (h : Ow f H lo t A n c l) : Ow f H' lo t A n c l := by
  have h' := ow_iff.1 h
  refine ow_iff.2 ⟨h'.1, h'.2.imp id ?_⟩
  rintro ⟨g, cur, e, h1, hg, h2⟩
  exact ⟨g, cur, e, h1, (hE.block g (Array.getElem?_eq_some_iff.1 hg).1 (hS g e)).trans hg, h2⟩
theorem Ow.blt {α : Type} {f : α → Value} {l : List α} {lo : Nat} (h : Ow f H lo t A n c l) {k : Nat} (hk : A = some ⟨k, 0, none⟩) : k < H.size := by
  rcases (ow_iff.1 h).2 with ⟨e, _⟩ | ⟨g, cur, e, _, hg, _⟩
  · rw [e] at hk; cases hk
  · rw [e] at hk; cases hk; exact (Array.getElem?_eq_some_iff.1 hg).1
theorem dkO_fp {k : Nat} : (dkO t A n c l).fp k ↔ A = some ⟨k, 0, none⟩ := Iff.rfl
end
section
variable {P : Program} {N : Fm} {Q : Exit → Act → World → Prop} {σ : Store} {w : World} {ops : Array Oper} {d : Nat} {t : TypeId} {pos : String} {af : Array Edge} {rest : List Oper}
theorem TL.storeOw {x y : Operand} {ty e : TypeId} {z0 : Value} {b1 : Nat} [hS : USize P ty z0 1 b1] {A : Option Addr} {n c k lo : Nat} {l : List Nat} {zu : Int} {u : Nat} [eu : IsN zu u]
    (hx : look σ x = some (.pointer (elemA A k))) (hy : look σ y = some (.int .u64 zu)) (hO : Ow u64v w.heap lo e A n c l) (hk : k < n)
    (K : ∀ w', Ow u64v w'.heap lo e A n c (l.set k u) → Exs (fun j => A = some ⟨j, 0, none⟩) w w' → TL P N .seq ops Q rest σ w') :
    TL P N .seq ops Q (⟨none, .store ty x y, t, pos, af, none⟩ :: rest) σ w := by
  obtain ⟨hl, h⟩ := ow_iff.1 hO
  rcases h with ⟨_, h0, _⟩ | ⟨g, cur, rfl, hlo, hg, hnc, hcm, hsz, htk⟩
  · omega
  · have hV : Vr w.heap g e cur.toList := by unfold Vr; simpa using hg
    have hlen : cur.toList.length = c := by simpa using hsz
    have hput := putO_set (k := k) (u64v u) (show k < cur.toList.length by omega)
    refine TL.storeV (b := g) (o := k) (e := e) (cs := cur.toList) (v := u64v u) (by rw [hx]; simp [elemA, add_mk]) (by rw [hy, eu.out]; rfl) rfl rfl hV hput fun w' hV' hu => K w' (ow_iff.2 ⟨by simpa using hl, .inr ⟨g, (cur.toList.set k (u64v u)).toArray, rfl, hlo, hV', hnc, hcm, by simp [hsz], ?_⟩⟩) (hu.exs.mono fun j _ e => by rw [e])
    simp only [List.take_set, htk]
    exact (List.map_set).symm
theorem TL.appendOwG {α : Type} {f : α → Value} {z : Value} (hf1 : ∀ u, (f u).oneCell' = true) (hzc : z.cells.size = 1) {x y : Operand} {ty e : TypeId} [hT : USlice P ty e] {b1 : Nat} [hS : USize P e z 1 b1] {A A' : Option Addr} {n c c' B lo : Nat} {l : List α} {u : α}
    (hx : look σ x = some (.slice A n c)) (hy : look σ y = some (.slice A' 1 c')) (hd : Nat.blt d N.n = true) (hO : Ow f w.heap lo e A n c l) (hs : Sl f w.heap B A' 1 c' [u])
    (hroom : (n + 1) * b1 ≤ 140737488355328 ∧ n + 1 ≤ 9223372036854775807)
    (K : ∀ w' A2 c2, Ow f w'.heap 0 e A2 (n + 1) c2 (l ++ [u]) → (A2 = A ∧ c2 = c ∧ Exs (fun j => A = some ⟨j, 0, none⟩) w w' ∨ (∀ k, A2 = some ⟨k, 0, none⟩ → w.heap.size ≤ k) ∧ Ext w w') → TL P N .seq ops Q rest ((d, .slice A2 (n + 1) c2) :: σ) w') :
    TL P N .seq ops Q (⟨some d, .call { callee := .builtin .append, args := #[x, y], argTypes := #[ty, ty] }, t, pos, af, none⟩ :: rest) σ w := by
  obtain ⟨i, hi, hz0, hsz, hby⟩ := hS.info
  obtain ⟨hl, h⟩ := ow_iff.1 hO
  rcases hs.mem with h0 | ⟨b', o, rfl, _, hm⟩
  · omega
  have hnews : ∀ j v, ([f u] : List Value)[j]? = some v → w.cell? ((⟨b', o, none⟩ : Addr).add j) = some v := fun j v hv => by
    have hj : j = 0 := by have := (List.getElem?_eq_some_iff.1 hv).1; simpa using this
    subst hj
    simp at hv
    subst hv
    rw [add_mk, cell_of_hcell]
    exact hm 0 u rfl
  have hE : ∀ o, Ext w (w.drew.alloc o) := fun o => ⟨rfl, rfl, rfl, by simp, fun k hk => heap_alloc_old w.drew _ (by simpa using hk)⟩
  have hone : ∀ v ∈ [f u], v.oneCell' = true := fun v hv => by rw [List.mem_singleton] at hv; subst hv; exact hf1 u
  rcases h with ⟨rfl, h0, h0'⟩ | ⟨g, cur, rfl, hlo, hg, hnc, hcm, hcs, htk⟩
  · subst h0 h0'
    have hl0 : l = [] := List.eq_nil_of_length_eq_zero hl
    subst hl0
    have hr := run_append_nil (P := P) w ty t e i _ hT.out hi hz0 ⟨b', o, none⟩ 1 c' [f u] (by simp [hsz]) hnews (by omega) (by omega) (by rw [hby]; omega)
    have hge := grownCap_ge w 1 0 e
    have hcm : grownCap w 1 0 e ≤ maxLen := grownCap_le_maxLen w 1 0 e (by unfold maxLen; omega)
    have hB : ∀ cap, 1 ≤ cap → cap ≤ maxLen → Ow f (w.drew.alloc (.cells (([f u] : List Value).toArray ++ Builtin.zeroCells z.cells (cap - 1)) e)).heap w.heap.size e (some ⟨w.heap.size, 0, none⟩) 1 cap [u] := by
      intro cap h1 h2
      refine ow_iff.2 ⟨rfl, .inr ⟨w.heap.size, _, rfl, Nat.le_refl _, heap_alloc_new w.drew _, h1, h2, ?_, ?_⟩⟩
      · simp [size_zeroCells, hzc]; omega
      · simp
    have hO2 := hB _ hge hcm
    refine TL.op (fun ρ hρ => ?_) hd (K _ _ _ hO2.at0 (.inr ⟨fun k hk => hO2.fresh k hk, hE _⟩))
    simp [execOp, resolve, invoke, builtin, hρ x _ hx, hρ y _ hy, hr]
  · have hlen : cur.toList.length = c := by simpa using hcs
    rcases Nat.lt_or_ge c (n + 1) with hcn | hcn
    · obtain rfl : n = c := by omega
      have holds : ∀ j v, (l.map f)[j]? = some v → w.cell? ((⟨g, 0, none⟩ : Addr).add j) = some v := by
        intro j v hv
        rw [add_mk, cell_of_hcell]
        unfold hcell
        rw [hg]
        rw [← htk, List.getElem?_take] at hv
        split at hv
        · simpa using hv
        · cases hv
      have hr := run_append_grow (P := P) w ty t e i _ hT.out hi hz0 ⟨g, 0, none⟩ n n (l.map f) (by simp [hl, hsz]) holds ⟨b', o, none⟩ 1 c' [f u] (by simp [hsz]) hnews (by omega) (by omega) (growslice_fits (by omega) (by rw [hby]; exact hroom.1))
      have hge := grownCap_ge w (n + 1) n e
      have hcm2 : grownCap w (n + 1) n e ≤ maxLen := grownCap_le_maxLen w (n + 1) n e (by unfold maxLen; omega)
      have hB : ∀ cap, n + 1 ≤ cap → cap ≤ maxLen → Ow f (w.drew.alloc (.cells ((l.map f).toArray ++ ([f u] : List Value).toArray ++ Builtin.zeroCells z.cells (cap - (n + 1))) e)).heap w.heap.size e (some ⟨w.heap.size, 0, none⟩) (n + 1) cap (l ++ [u]) := by
        intro cap h1 h2
        refine ow_iff.2 ⟨by simp [hl], .inr ⟨w.heap.size, _, rfl, Nat.le_refl _, heap_alloc_new w.drew _, h1, h2, ?_, ?_⟩⟩
        · simp [size_zeroCells, hzc, hl]; omega
        · simp only [Array.toList_append, List.toList_toArray]
          rw [List.take_left' (by simp [hl])]
          simp
      have hO2 := hB _ hge hcm2
      refine TL.op (fun ρ hρ => ?_) hd (K _ _ _ hO2.at0 (.inr ⟨fun k hk => hO2.fresh k hk, hE _⟩))
      simp [execOp, resolve, invoke, builtin, hρ x _ hx, hρ y _ hy, hr]
    · have hr := run_append_room (P := P) w ty t e i hT.out hi g n c cur hg ⟨b', o, none⟩ 1 c' [f u] (by simp [hsz]) hnews hone hcn (by simp [hsz]; omega)
      have hV : Vr w.heap g e cur.toList := by unfold Vr; simpa using hg
      rw [hsz] at hr
      simp only [Nat.mul_one, List.length_singleton] at hr
      have hO2 : Ow f (w.setRow g (cur.toList.take n ++ [f u] ++ cur.toList.drop (n + 1)).toArray).heap 0 e (some ⟨g, 0, none⟩) (n + 1) c (l ++ [u]) := by
        refine ow_iff.2 ⟨by simp [hl], .inr ⟨g, _, rfl, Nat.zero_le _, setRow_heap w g _ _ e _ (by simpa using hg), hcn, hcm, by simp [hlen]; omega, ?_⟩⟩
        rw [htk]
        simp only [List.toList_toArray]
        rw [List.take_left' (by simp [hl])]
        simp
      refine TL.op (fun ρ hρ => ?_) hd (K _ _ _ hO2 (.inl ⟨rfl, rfl, (upd_setRow _ _ _).exs.mono fun j _ e => by rw [e]⟩))
      simp [execOp, resolve, invoke, builtin, hρ x _ hx, hρ y _ hy, hr]
theorem TL.appendOw {x y : Operand} {ty e : TypeId} [hT : USlice P ty e] {b1 : Nat} [hS : USize P e (.int .u64 0) 1 b1] {A A' : Option Addr} {n c c' B lo : Nat} {l : List Nat} {u : Nat}
    (hx : look σ x = some (.slice A n c)) (hy : look σ y = some (.slice A' 1 c')) (hd : Nat.blt d N.n = true) (hO : Ow u64v w.heap lo e A n c l) (hs : Sl u64v w.heap B A' 1 c' [u])
    (hroom : (n + 1) * b1 ≤ 140737488355328 ∧ n + 1 ≤ 9223372036854775807)
    (K : ∀ w' A2 c2, Ow u64v w'.heap 0 e A2 (n + 1) c2 (l ++ [u]) → (A2 = A ∧ c2 = c ∧ Exs (fun j => A = some ⟨j, 0, none⟩) w w' ∨ (∀ k, A2 = some ⟨k, 0, none⟩ → w.heap.size ≤ k) ∧ Ext w w') → TL P N .seq ops Q rest ((d, .slice A2 (n + 1) c2) :: σ) w') :
    TL P N .seq ops Q (⟨some d, .call { callee := .builtin .append, args := #[x, y], argTypes := #[ty, ty] }, t, pos, af, none⟩ :: rest) σ w :=
  TL.appendOwG (f := u64v) (fun _ => rfl) rfl hx hy hd hO hs hroom K
end
section
variable {α : Type} {f : α → Value} {H : Array Obj} {t : TypeId} {A : Option Addr} {n c : Nat} {l : List α}
def dkOG {α : Type} (f : α → Value) (t : TypeId) (A : Option Addr) (n c : Nat) (l : List α) : DK where
  p H := Ow f H 0 t A n c l
  fp k := A = some ⟨k, 0, none⟩
  lt H k h hk := h.blt hk
  st H H' hd h := h.de hd fun k hk => hk
theorem dkOG_fp {k : Nat} : (dkOG f t A n c l).fp k ↔ A = some ⟨k, 0, none⟩ := Iff.rfl
theorem dkOG_p {H : Array Obj} : (dkOG f t A n c l).p H ↔ Ow f H 0 t A n c l := Iff.rfl
theorem Fk.og {S : Nat → Prop} {w0 w : World} {L : List VB} {D : List DK} (h : Fk S w0 w L D) (hm : dkOG f t A n c l ∈ D) : Ow f w.heap 0 t A n c l := h.data _ hm
theorem Fk.appendG {S : Nat → Prop} {w0 w w' : World} {L : List VB} {D D' : List DK} {A2 : Option Addr} {n2 c2 : Nat} {l2 : List α} (h : Fk S w0 w L D) (hS : SetD D (dkOG f t A n c l) (dkOG f t A2 n2 c2 l2) D') (hO : Ow f w'.heap 0 t A2 n2 c2 l2)
    (hc : A2 = A ∧ c2 = c ∧ Exs (fun j => A = some ⟨j, 0, none⟩) w w' ∨ (∀ k, A2 = some ⟨k, 0, none⟩ → w.heap.size ≤ k) ∧ Ext w w') : Fk S w0 w' L D' := by
  refine h.write hS (hc.elim (fun h => h.2.2) (fun h => .of h.2)) hO fun k hk => ?_
  rcases hc with h | h
  · exact .inl (by rw [← h.1]; exact hk)
  · exact .inr (h.1 k hk)
end
attribute [irreducible] dkO dkOG
end Go.Eng
set_option linter.unusedSectionVars false
namespace Go.Eng
open Go Go.Proofs Go.NatM Go.RowKit Go.Proofs.YtlpheckjogphmaaGreat
theorem Ow.blt' {α : Type} {f : α → Value} {H : Array Obj} {t : TypeId} {A : Option Addr} {n c lo : Nat} {l : List α} (h : Ow f H lo t A n c l) {k : Nat} (hk : A = some ⟨k, 0, none⟩) : k < H.size := by
  unfold Ow at h
  rcases h.2 with ⟨e, _⟩ | ⟨g, cur, e, _, hg, _⟩
  · rw [e] at hk; cases hk
  · rw [e] at hk; cases hk; exact (Array.getElem?_eq_some_iff.1 hg).1
theorem Ow.lo' {α : Type} {f : α → Value} {H : Array Obj} {t : TypeId} {A : Option Addr} {n c lo : Nat} {l : List α} (h : Ow f H lo t A n c l) {k : Nat} (hk : A = some ⟨k, 0, none⟩) : lo ≤ k := by
  unfold Ow at h
  rcases h.2 with ⟨e, _⟩ | ⟨g, cur, e, hl, hg, _⟩
  · rw [e] at hk; cases hk
  · rw [e] at hk; cases hk; exact hl
def dpOw (lo : Nat) (t : TypeId) (A : Option Addr) (n c : Nat) (l : List Nat) : DP := ⟨fun H => Ow u64v H lo t A n c l, fun k => A = some ⟨k, 0, none⟩, fun _ _ h hk => h.blt' hk, fun H H' hd h => by
  unfold Ow at h ⊢
  refine ⟨h.1, h.2.imp id ?_⟩
  rintro ⟨g, cur, e, hlo, hg, r⟩
  exact ⟨g, cur, e, hlo, (hd.block g _ _ _ hg (.inl e)).trans hg, r⟩⟩
section
variable {S : Nat → Prop} {w0 w w' : World} {L : List VB} {D : List DP} {lo : Nat} {t : TypeId} {A : Option Addr} {n c : Nat} {l : List Nat}
theorem Fr.addOw (h : Fr w0 w L D S) (hE : Ext w w') (hO : Ow u64v w'.heap w.heap.size t A n c l) (hlo : lo ≤ w.heap.size) : Fr w0 w' L (dpOw lo t A n c l :: D) S := h.addNew hE _ (by unfold dpOw; exact hO.mono hlo) fun k hk => by unfold dpOw at hk; exact hO.lo' hk
theorem Fr.ow (h : Fr w0 w L D S) (hm : dpOw lo t A n c l ∈ D) : Ow u64v w.heap lo t A n c l := by have := h.data _ hm; unfold dpOw at this; exact this
end
end Go.Eng
namespace Go.Proofs.YtlpheckjogphmaaGreat
open Go Go.Eng Go.Proofs Go.NatM Go.RowKit
def RetZO (w : World) (z : Int) (K : Nat) (e : Ending) (w' : World) : Prop := ∃ x : IV, e = .returned (ivA x) ∧ LI w'.heap z x ∧ Ext w w' ∧ x.m.n ≤ K ∧ Ow u64v w'.heap w.heap.size 64 x.m.A x.m.n x.m.c x.m.l
theorem zleastO (w : World) (x : IV) (g : GI w.heap x) (hn : x.m.n ≤ 35184372088832) : Cl Tryz.prog 29 #[ivA x] w (RetZO w (ival x) x.m.n) := by
  have hl := fun w1 (hE : Ext w w1) => least_ok w1 _ x.m.A x.m.n x.m.c x.m.l (g.s.ext hE) g.u hn
  obtain ⟨xs, ⟨xA, xn, xc, xl⟩⟩ := x
  dsimp only at hl hn
  refine enter Tryz.func29 rfl rfl rfl ?_
  have hF := Fr.refl w
  repeat' (first | (refine TL.isOp ?_; first | (refine TL.isCall ?_; refine TL.call rfl rfl ?_; first | (refine (hl _ hF.ext).mono ?_; rintro _ wl ⟨Al, nl, cl, rfl, hOl, hEl, hKl⟩; replace hF := Fr.addOw (lo := w.heap.size) hF hEl hOl hF.exs.size; clear hOl hEl; refine Back.mk ?_) | (refine (of_ok _ _ _ _ _ _ ((Fr.ow hF (by repeat (first | exact memH | apply memT))).sl (Nat.le_refl _))).mono ?_; rintro _ wo ⟨rfl, hLo, hEo⟩; replace hF := Fr.addLI (hF.exts hEo) hLo; clear hLo hEo; refine Back.mk ?_)) | (refine TL.storeAFr hF rfl rfl rfl rfl (by refine ⟨?_, ?_⟩; (focus (repeat (first | apply SetV.head | apply SetV.tail))); rfl) rfl ?_; clear hF; intro ws hF) | (refine TL.boxAFr hF (d := 1) (cs := [.bool xs, .slice xA xn xc]) rfl rfl ?_; clear hF; intro w1 b1 hF) | (refine TL.allocFr hF (d := 2) rfl rfl ?_; clear hF; intro w2 b2 hF)) | (refine TF.is ?_; first | refine TF.nil ?_ | refine TF.e rfl ?_ | (refine TF.pick rfl ?_; first | (apply TFo.ev; (case hd => rfl); (case h => (intro wh hF; first | (apply Ev.isLoad; first | exact ev_loadFr hF rfl (by refine ⟨?_, ?_⟩; (focus (repeat (first | exact InV.head | apply InV.tail))); rfl)) | exact ev_fieldAddr rfl))))) | (refine T.is ?_; first | refine T.seq ?_ | refine T.region ?_ | refine T.ret ?_ | (refine T.regionFt hF 1 6 (.s 0 (.s 1 (.s 2 (.s 3 (.e 4 (.e 5 (.e 6 .nil))))))) mixed (by kernel_rfl) ?_; clear hF; intro wr hF)) | (refine G.is ?_; first | refine G.next ?_ | refine G.only ?_ | refine G.treeEnd rfl ?_ | refine G.tree rfl (by first | exact hF | exact hF.weak (List.sublist_append_right _ _) (by repeat (first | exact allR | apply allT)) | exact hF.weak (by repeat (first | exact List.Sublist.refl _ | apply List.Sublist.cons)) (by repeat (first | exact allR | apply allT)) | exact hF.weak (by repeat (first | exact List.Sublist.refl _ | apply List.Sublist.cons)) (by repeat (first | exact allN | refine allH (by repeat (first | exact memH | apply memT)) ?_))) ?_) | refine TL.nil ?_)
  all_goals exact G.retC1 rfl rfl (held_agg (hF.var (b := b2) (by repeat (first | exact InV.head | apply InV.tail))) rfl) ⟨_, rfl, Fr.li hF (by repeat (first | exact memH | apply memT)), hF.ext, hKl, Fr.ow hF (by repeat (first | exact memH | apply memT))⟩
theorem spoilO (w : World) (x : IV) (lo : Nat) (hO : Ow u64v w.heap lo 64 x.m.A x.m.n x.m.c x.m.l) (hn : x.m.n ≤ 1099511627776) :
    Cl Tryz.prog 10 #[ivA x] w (fun e w' => e = .returned (.tuple #[]) ∧ Exs (fun k => x.m.A = some ⟨k, 0, none⟩) w w') := by
  obtain ⟨xs, ⟨xA, xn, xc, xl⟩⟩ := x
  dsimp only at hO hn ⊢
  have hA : ∀ k, xA = some ⟨k, 0, none⟩ → k < w.heap.size := fun k hk => hO.blt' hk
  refine enter Tryz.func10 rfl rfl rfl ?_
  have hF := Fr.refl w
  repeat' (first | (refine TL.isOp ?_; first | (apply TL.ev; (case hd => rfl); (case h => (first | exact ev_simple rfl))) | (refine TL.boxAFr hF (d := 1) (cs := [.bool xs, .slice xA xn xc]) rfl rfl ?_; clear hF; intro w1 b1 hF)) | (refine T.is ?_; first | refine T.seq ?_ | refine T.region ?_ | refine T.block ?_) | (refine G.is ?_; first | refine G.next ?_) | refine TL.nil ?_)
  have hb1 := (hF.lo (b := b1) (by repeat (first | exact InV.head | apply InV.tail))).resolve_right id
  refine T.loop (α := Nat × List Nat) (fun x => [(1, .pointer (some ⟨b1, 0, none⟩)), (2, .int .i64 (x.1 : Int))])
    (fun x W => x.1 ≤ xn ∧ Ow u64v W.heap lo 64 xA xn xc x.2 ∧ Vr W.heap b1 27 [.bool xs, .slice xA xn xc] ∧ Exs (fun k => xA = some ⟨k, 0, none⟩) w W) (fun x => xn - x.1) (0, xl) (by repeat (first | exact Sub.nil _ | refine Sub.cons rfl ?_ | refine Sub.cons' rfl (int_congr (by omega)) ?_)) ⟨Nat.zero_le _, Ow.ext hF.ext hO, hF.var (b := b1) (by repeat (first | exact InV.head | apply InV.tail)), Exs.of hF.ext⟩ ?_
  clear hF hO
  rintro ⟨i, l⟩ w1 ⟨hi, hO, hV, hX⟩
  dsimp only at hi hO hV hX ⊢
  have hF := Fr.refl w1
  rcases Nat.lt_or_ge i xn with hin | hin
  · repeat' (first | (refine TL.isOp ?_; first | (refine TL.isBin ?_; refine TL.cmpG rfl rfl rfl rfl (fun hc => ?_) (fun hc => ?_) <;> (try (first | (exfalso; omega) | exact absurd rfl hc))) | (apply TL.ev; (case hd => rfl); (case h => (first | exact ev_simple rfl | (apply Ev.isBin; first | exact ev_arN rfl rfl rfl (by omega) | exact ev_arU rfl rfl rfl (by first | exact True.intro | omega)) | (apply Ev.isLoad; first | exact ev_loadV rfl (hV.ext hF.ext) rfl) | exact ev_len rfl | exact ev_fieldAddr rfl | exact ev_convU rfl (by omega) | exact ev_indexN rfl rfl hin (Ow.sl (Ow.ext hF.ext hO) (Nat.le_refl _)).some))) | (refine TL.storeOw (k := i) (l := l) rfl rfl (Ow.ext hF.ext hO) hin ?_; intro ws hO2 hX2; have hE1 := hF.ext; clear hF; have hF := Fr.refl ws)) | (refine T.is ?_; first | refine T.seq ?_ | refine T.region ?_ | refine T.block ?_ | refine T.cond_t rfl ?_ | refine T.skip ?_) | (refine G.is ?_; first | refine G.next ?_ | refine G.blockN ?_) | refine TL.nil ?_)
    have hlt := hV.lt
    exact G.again (i + 1, l.set i ((119 + i) % 18446744073709551616)) (by repeat (first | exact Sub.nil _ | refine Sub.cons rfl ?_ | refine Sub.cons' rfl (int_congr (by omega)) ?_)) ⟨hin, hO2, by unfold Vr at hV ⊢; exact (hX2.block b1 hlt (fun e => by have := hA _ e; omega)).trans hV, hX.trans hX2⟩ (by dsimp only; omega)
  · repeat' (first | (refine TL.isOp ?_; first | (refine TL.isBin ?_; refine TL.cmpG rfl rfl rfl rfl (fun hc => ?_) (fun hc => ?_) <;> (try (first | (exfalso; omega) | exact absurd rfl hc))) | (apply TL.ev; (case hd => rfl); (case h => (first | exact ev_simple rfl | (apply Ev.isLoad; first | exact ev_loadV rfl (hV.ext hF.ext) rfl) | exact ev_len rfl | exact ev_fieldAddr rfl)))) | (refine T.is ?_; first | refine T.seq ?_ | refine T.region ?_ | refine T.cond_f rfl ?_ | refine T.exit ?_) | (refine G.is ?_; first | refine G.next ?_ | refine G.blockE ?_ | refine G.thenE ?_) | refine TL.nil ?_)
    exact G.end0 rfl ⟨rfl, hX⟩
end Go.Proofs.YtlpheckjogphmaaGreat
set_option linter.unusedSectionVars false
namespace Go.Proofs.YtlpheckjogphmaaGreat
open Go Go.Eng Go.Proofs Go.NatM Go.RowKit
end Go.Proofs.YtlpheckjogphmaaGreat
set_option linter.unusedSectionVars false
namespace Go.Eng
open Go Go.Proofs Go.NatM Go.RowKit Go.Proofs.YtlpheckjogphmaaGreat
section
variable {S T : Nat → Prop} {w0 w w' W Wb : World} {L L' : List VB} {D D' : List DP} {m : Nat}
structure Chg (Wb w' : World) (V : Nat → Prop) (m : Nat) : Prop where
  size : Wb.heap.size ≤ w'.heap.size
  same : ∀ (k : Nat) (o : Obj), Wb.heap[k]? = some o → keepsObj o = true → ¬ V k → k ≠ m → w'.heap[k]? = some o
theorem Fr.deC (hb : Fr w0 Wb L D S) (hn : ∀ v ∈ L, v.cs.all noU64 = true) (hc : Chg Wb w' (fun k => ∃ v ∈ L, v.b = k) m) {o : Obj} (hm : Wb.heap[m]? = some o) (ho : o.isCells = false) {d : DP} (hd : d ∈ D) (hf : ¬ d.fp m) : d.p w'.heap := by
  refine d.st _ _ ⟨hc.size, fun k cs t x hk hw => ?_, fun k o' hk ho' hfk => ?_⟩ (hb.data d hd)
  · rw [hk]
    refine hc.same k _ hk rfl (fun ⟨v, hv, e⟩ => ?_) (fun e => ?_)
    · subst e
      have h1 := (hb.vars v hv).2
      unfold Vr at h1
      rw [h1] at hk
      cases hk
      rcases hw with hw | hw
      · exact hb.apart v hv d hd hw
      · rw [List.toList_toArray, hn v hv] at hw; cases hw
    · subst e
      rw [hm] at hk
      cases hk
      cases ho
  · rw [hk]
    refine hc.same k _ hk (keepsObj_map ho') (fun ⟨v, hv, e⟩ => ?_) (fun e => hf (e ▸ hfk))
    subst e
    have h1 := (hb.vars v hv).2
    unfold Vr at h1
    rw [h1] at hk
    cases hk
    cases ho'
theorem Fr.renew (hb : Fr w0 Wb L D) (hE : Ext w0 w') (hL : L'.map (·.b) = L.map (·.b)) (hV : ∀ v ∈ L', Vr w'.heap v.b v.t v.cs) (hD : ∀ d ∈ D', d.p w'.heap ∧ ∃ e ∈ D, ∀ k, d.fp k → e.fp k) : Fr w0 w' L' D' := by
  have hmem : ∀ v ∈ L', ∃ u ∈ L, u.b = v.b := fun v hv => by
    have : v.b ∈ L.map (·.b) := by rw [← hL]; exact List.mem_map_of_mem hv
    obtain ⟨u, hu, e⟩ := List.mem_map.1 this
    exact ⟨u, hu, e⟩
  refine ⟨.of hE, fun v hv => ⟨?_, hV v hv⟩, ?_, fun d hd => (hD d hd).1, fun v hv d hd hk => ?_⟩
  · obtain ⟨u, hu, e⟩ := hmem v hv
    rw [← e]; exact (hb.vars u hu).1
  · have h1 : (L.map (·.b)).Pairwise (· ≠ ·) := List.pairwise_map.2 hb.dist
    rw [← hL] at h1
    exact List.pairwise_map.1 h1
  · obtain ⟨u, hu, e⟩ := hmem v hv
    obtain ⟨_, f, hf, hk'⟩ := hD d hd
    exact hb.apart u hu f hf (hk' _ (e ▸ hk))
theorem Fr.grd' {g m r c : Nat} {l : GL} (hF : Fr w0 w L D S) (h : dpGr g m r c l ∈ D) : Gr w.heap g m r c l := by have := hF.data _ h; unfold dpGr at this; exact this
theorem Gr.carry {g m r c : Nat} {l l' : GL} {H : Array Obj} (h1 : Gr H g m r c l') (hsub : ∀ p ∈ l', p ∈ l) (hv : ∀ p ∈ l, LI w'.heap (ival p.2) p.2 ∧ p.2.m.n ≤ 16384) (hg : w'.heap[g]? = H[g]?) (hm : w'.heap[m]? = H[m]?) : Gr w'.heap g m r c l' :=
  ⟨by have h2 := h1.cells; unfold Vr at h2 ⊢; rw [hg]; exact h2, by obtain ⟨es, k, h2, h3⟩ := h1.mp; exact ⟨es, k, hm.trans h2, h3⟩, fun p hp => hv p (hsub p hp)⟩
theorem KeepO.exs (h : Exs T w w') (hT : ∀ k, T k → ∃ o : Obj, w.heap[k]? = some o ∧ keepsObj o = true) : KeepO w w' :=
  ⟨h.size, fun k o hk ho => (h.block k (Array.getElem?_eq_some_iff.1 hk).1 fun ht => by obtain ⟨o', h1, h2⟩ := hT k ht; rw [hk] at h1; cases h1; rw [ho] at h2; cases h2).trans hk⟩
theorem KeepO.trans {a b c : World} (h : KeepO a b) (k : KeepO b c) : KeepO a c := ⟨Nat.le_trans h.size k.size, fun i o hi ho => k.same i o (h.same i o hi ho) ho⟩
theorem KeepO.ext {a b : World} (h : Ext a b) : KeepO a b := ⟨h.size, fun k o hk _ => (h.block k (Array.getElem?_eq_some_iff.1 hk).1).trans hk⟩
theorem KeepO.of {a b : World} (h : KeepsOthers a b) : KeepO a b := ⟨h.size, fun k o hk ho => h.same k o hk (by cases o <;> first | rfl | cases ho)⟩
theorem dpGr_fp {g m r c : Nat} {l : GL} {k : Nat} : (dpGr g m r c l).fp k ↔ (k = g ∨ k = m) := by unfold dpGr; exact Iff.rfl
theorem Fr.round {w1 w2 w3 w4 w5 : World} {L0 L3 L5 : List VB} {v2 v3 v5 : VB} {D3 : List DP} {g r c : Nat} {l l' : GL} {B n cc : Nat} {t : TypeId} {A : Option Addr} {ws : List Nat}
    (hb : Fr w Wb L0 (dpGr g m r c l :: D)) (hn : ∀ v ∈ L0, v.cs.all noU64 = true) (hfr : ∀ x ∈ D, ¬ x.fp m) (hE : Ext Wb w1) (hc : Cx B w1 w2)
    (hO : OpnK w w2 (fun k => (∃ v ∈ v2 :: L0, v.b = k) ∨ k = m ∨ A = some ⟨k, 0, none⟩))
    (h3 : Fr w2 w3 (v3 :: L3) (dpGr g m r c l' :: D3) (fun k => (∃ v ∈ v2 :: L0, v.b = k) ∨ k = m ∨ A = some ⟨k, 0, none⟩)) (hv2 : Wb.heap.size ≤ v2.b) (e3 : v3.b = v2.b) (eL3 : L3.map (·.b) = L0.map (·.b))
    (how : Ow u64v w3.heap Wb.heap.size t A n cc ws) (hsub : ∀ p ∈ l', p ∈ l) (hX : Exs (fun k => A = some ⟨k, 0, none⟩) w3 w4)
    (h5 : Fr w4 w5 (v5 :: L5) [] (fun k => ∃ v ∈ v3 :: L3, v.b = k)) (eL5 : L5.map (·.b) = L0.map (·.b)) :
    KeepO w2 w5 ∧ Fr w w5 L5 (dpGr g m r c l' :: D) := by
  have hvar : ∀ k, (∃ v ∈ v3 :: L3, v.b = k) → ∃ v ∈ v2 :: L0, v.b = k := fun k ⟨v, hv, e⟩ => by
    rcases List.mem_cons.1 hv with rfl | hv
    · exact ⟨v2, List.mem_cons_self .., e3 ▸ e⟩
    · have : v.b ∈ L0.map (·.b) := by rw [← eL3]; exact List.mem_map_of_mem hv
      obtain ⟨u, hu, e'⟩ := List.mem_map.1 this
      exact ⟨u, List.mem_cons_of_mem _ hu, e'.trans e⟩
  have hx25 : Exs (fun k => (∃ v ∈ v2 :: L0, v.b = k) ∨ k = m ∨ A = some ⟨k, 0, none⟩) w2 w5 := (h3.exs.trans (hX.mono fun k _ h => .inr (.inr h))).trans (h5.exs.mono fun k _ h => .inl (hvar k h))
  have hA : ∀ k, A = some ⟨k, 0, none⟩ → Wb.heap.size ≤ k := fun k hk => how.lo' hk
  have hwb := hb.exs.size
  have hEw : Ext w w5 := (((Exs.of (S := fun _ => False) (Fr.outerK hO h3)).then hX (fun i hi h => by have := hA i h; omega)).then h5.exs (fun i hi h => by have := hO.lo i (.inl (hvar i h)); omega)).ext0
  obtain ⟨hgl, hml⟩ := (Fr.grd' hb (g := g) (m := m) (l := l) memH).lts
  have hG := Fr.grd' hb (g := g) (m := m) (l := l) memH
  obtain ⟨es, kk, hmp, _⟩ := hG.mp
  have hchg : Chg Wb w5 (fun k => ∃ v ∈ L0, v.b = k) m := ⟨Nat.le_trans (Nat.le_trans hE.size hc.size) hx25.size, fun k o hk ho hV hkm => by
    have hlt := (Array.getElem?_eq_some_iff.1 hk).1
    have h1 := (hE.block k hlt).trans hk
    have h2 := (hc.cells k o h1 ho).trans h1
    refine (hx25.block k (Array.getElem?_eq_some_iff.1 h2).1 ?_).trans h2
    rintro (⟨v, hv, e⟩ | e | e)
    · rcases List.mem_cons.1 hv with rfl | hv
      · omega
      · exact hV ⟨v, hv, e⟩
    · exact hkm e
    · have := hA k e; omega⟩
  have hb' := hb.add (dpGv l) (by unfold dpGv; exact hG.vals) fun v _ h => nf_gv h
  have hvals : ∀ p ∈ l, LI w5.heap (ival p.2) p.2 ∧ p.2.m.n ≤ 16384 := by
    have := Fr.deC hb' hn hchg hmp rfl (d := dpGv l) memH nf_gv
    unfold dpGv at this; exact this
  have hsame : ∀ k, k < Wb.heap.size → (∀ v ∈ v3 :: L3, v.b ≠ k) → w5.heap[k]? = w3.heap[k]? := fun k hk hv => by
    have hk3 : k < w3.heap.size := Nat.lt_of_lt_of_le hk (Nat.le_trans (Nat.le_trans hE.size hc.size) h3.exs.size)
    have a1 := hX.block k hk3 fun e => by have := hA k e; omega
    exact (h5.exs.block k (Nat.lt_of_lt_of_le hk3 hX.size) fun ⟨v, hv', e⟩ => hv v hv' e).trans a1
  have hap : ∀ k, (k = g ∨ k = m) → ∀ v ∈ v3 :: L3, v.b ≠ k := fun k hk v hv e => h3.apart v hv _ (List.mem_cons_self ..) (dpGr_fp.2 (e ▸ hk))
  refine ⟨KeepO.exs hx25 fun k hk => hO.cells k hk, hb.renew hEw eL5 (fun v hv => (h5.vars v (List.mem_cons_of_mem _ hv)).2) fun d hd => ?_⟩
  rcases List.mem_cons.1 hd with rfl | hd
  · refine ⟨?_, _, List.mem_cons_self .., fun k hk => dpGr_fp.2 (dpGr_fp.1 hk)⟩
    have := Gr.carry (Fr.grd' h3 (g := g) (m := m) (l := l') memH) hsub hvals (hsame g hgl (hap g (.inl rfl))) (hsame m hml (hap m (.inr rfl)))
    unfold dpGr; exact this
  · exact ⟨Fr.deC hb hn hchg hmp rfl (List.mem_cons_of_mem _ hd) (hfr d hd), d, List.mem_cons_of_mem _ hd, fun _ h => h⟩
theorem Ow.cells {α : Type} {f : α → Value} {H : Array Obj} {t : TypeId} {A : Option Addr} {n c lo : Nat} {l : List α} (h : Ow f H lo t A n c l) {k : Nat} (hk : A = some ⟨k, 0, none⟩) : ∃ o : Obj, H[k]? = some o ∧ o.isCells = true := by
  unfold Ow at h
  rcases h.2 with ⟨e, _⟩ | ⟨g, cur, e, _, hg, _⟩
  · rw [e] at hk; cases hk
  · rw [e] at hk; cases hk; exact ⟨_, hg, rfl⟩
end
end Go.Eng
namespace Go.Proofs.YtlpheckjogphmaaGreat
open Go Go.Eng Go.Proofs Go.NatM Go.RowKit
end Go.Proofs.YtlpheckjogphmaaGreat
set_option linter.unusedSectionVars false
namespace Go.Eng
open Go Go.Proofs Go.NatM Go.RowKit Go.Proofs.YtlpheckjogphmaaGreat
def Nw (lo : Nat) (x : IV) : Prop := ∀ k, fpA x.m.A x.m.n k → lo ≤ k
theorem Nw.mono {lo lo' : Nat} {x : IV} (h : Nw lo x) (hl : lo' ≤ lo) : Nw lo' x := fun k hk => Nat.le_trans hl (h k hk)
theorem Nw.of {H : Array Obj} {lo : Nat} {t : TypeId} {x : IV} (h : Ow u64v H lo t x.m.A x.m.n x.m.c x.m.l) : Nw lo x := fun k ⟨h0, o, e⟩ => by
  unfold Ow at h
  rcases h.2 with ⟨e', _⟩ | ⟨g, cur, e', hl, hg, _⟩
  · rw [e] at e'; cases e'
  · rw [e] at e'; cases e'; exact hl
theorem Sl.same {α : Type} {f : α → Value} {H H' : Array Obj} {n c : Nat} {A : Option Addr} {l : List α} (hs : Sl f H H.size A n c l) (hz : H.size ≤ H'.size) (he : ∀ k, fpA A n k → H'[k]? = H[k]?) : Sl f H' H'.size A n c l := by
  refine ⟨hs.len, hs.cap, ?_⟩
  rcases hs.mem with h0 | ⟨b, o, e, hlt, hm⟩
  · exact .inl h0
  · rcases Nat.eq_zero_or_pos n with h0 | h0
    · exact .inl h0
    · exact .inr ⟨b, o, e, Nat.lt_of_lt_of_le hlt hz, fun j x hx => hcell_eq (he b ⟨h0, o, e⟩) (hm j x hx)⟩
theorem Sm.same {α : Type} {k : Nat} {f : α → List Value} {H H' : Array Obj} {n c : Nat} {A : Option Addr} {l : List α} (hs : Sm k f H H.size A n c l) (hz : H.size ≤ H'.size) (he : ∀ k, fpA A n k → H'[k]? = H[k]?) : Sm k f H' H'.size A n c l := by
  refine ⟨hs.len, hs.cap, hs.pos, hs.wid, ?_⟩
  rcases hs.mem with h0 | ⟨b, o, e, hlt, hm⟩
  · exact .inl h0
  · rcases Nat.eq_zero_or_pos n with h0 | h0
    · exact .inl h0
    · exact .inr ⟨b, o, e, Nat.lt_of_lt_of_le hlt hz, fun j x hx q v hv => hcell_eq (he b ⟨h0, o, e⟩) (hm j x hx q v hv)⟩
theorem GI.same {H H' : Array Obj} {x : IV} (h : GI H x) (hz : H.size ≤ H'.size) (he : ∀ k, fpA x.m.A x.m.n k → H'[k]? = H[k]?) : GI H' x := ⟨Sl.same h.s hz he, h.u⟩
theorem LI.same {H H' : Array Obj} {x : IV} {z : Int} (h : LI H z x) (hz : H.size ≤ H'.size) (he : ∀ k, fpA x.m.A x.m.n k → H'[k]? = H[k]?) : LI H' z x := ⟨GI.same h.g hz he, h.d, h.e⟩
def NwL (lo : Nat) (l : List IV) : Prop := ∀ q, q < l.length → Nw lo (l.getD q default)
theorem LM.same {H H' : Array Obj} {x : MV} {r c K lo : Nat} {F : Nat → Nat → Int} (h : LM H x r c F K) (hn : NwL lo x.l) (hA : ∀ k, fpA x.A x.n k → lo ≤ k) (hz : H.size ≤ H'.size) (he : ∀ k, lo ≤ k → k < H.size → H'[k]? = H[k]?) : LM H' x r c F K := by
  have hl := h.s.len
  have hxn := h.sh.n
  refine ⟨h.sh, Sm.same h.s hz fun k hk => he k (hA k hk) (h.s.fp_lt hk), fun i j hi hj => ⟨LI.same (h.g i j hi hj).1 hz fun k hk => ?_, (h.g i j hi hj).2⟩⟩
  have hlt := place_lt hi hj
  refine he k (hn _ (by omega) k hk) ?_
  have hs := (h.g i j hi hj).1.g.s
  obtain ⟨h0, o, e⟩ := hk
  rcases hs.mem with h1 | ⟨b, o', e', hb, _⟩
  · omega
  · rw [e] at e'; cases e'; exact hb
end Go.Eng
namespace Go.Proofs.YtlpheckjogphmaaGreat
open Go Go.Eng Go.Proofs Go.NatM Go.RowKit
end Go.Proofs.YtlpheckjogphmaaGreat
namespace Go.Proofs.YtlpheckjogphmaaGreat
open Go Go.Eng Go.Proofs Go.NatM Go.RowKit
def fill (R : List Nat) (N i : Nat) : List Nat := R.take i ++ List.replicate (N - i) 0
theorem fill_all {R : List Nat} {N : Nat} (h : R.length = N) : fill R N N = R := by simp [fill, ← h]
theorem Fk.fresh {S : Nat → Prop} {w0 w : World} {L : List VB} {D : List DK} (h : Fk S w0 w L D) {t : TypeId} {g n c : Nat} {l : List Nat} (hm : dkO t (some ⟨g, 0, none⟩) n c l ∈ D) (hS : ∀ k, ¬ S k) : Ow u64v w.heap w0.heap.size t (some ⟨g, 0, none⟩) n c l := by
  have h1 := ow_iff.1 (h.o hm)
  have hg := (h.own _ hm g (dkO_fp.2 rfl)).resolve_right (hS g)
  refine ow_iff.2 ⟨h1.1, h1.2.imp id ?_⟩
  rintro ⟨g', cur, e, h2⟩
  cases e
  exact ⟨g, cur, rfl, hg, h2.2⟩
end Go.Proofs.YtlpheckjogphmaaGreat
namespace Go.Proofs.YtlpheckjogphmaaGreat
open Go Go.Eng Go.Proofs Go.NatM Go.RowKit
def YesB (w : World) (e : Ending) (w' : World) : Prop := e = .returned (.bool true) ∧ Ext w w'
def sgv (i j : Nat) : Nat := ((4323455642275676160 + i * 1048576 % 18446744073709551616) % 18446744073709551616 + j) % 18446744073709551616
def sgs (i n : Nat) : List Nat := (List.range n).map (sgv i)
theorem mapr_get (f : Nat → Nat) {n j : Nat} (h : j < n) : ((List.range n).map f).getD j 0 = f j := by simp [List.getD, h]
theorem mapr_succ (f : Nat → Nat) (n : Nat) : (List.range (n + 1)).map f = (List.range n).map f ++ [f n] := by simp [List.range_succ]
theorem mapr_take (f : Nat → Nat) {m n : Nat} (h : m ≤ n) : ((List.range n).map f).take m = (List.range m).map f := by simp [← List.map_take, List.take_range, Nat.min_eq_left h]
theorem sgs_get {i n j : Nat} (h : j < n) : (sgs i n).getD j 0 = sgv i j := mapr_get (sgv i) h
theorem sgs_succ (i n : Nat) : sgs i (n + 1) = sgs i n ++ [sgv i n] := mapr_succ (sgv i) n
theorem sgs_take {i m n : Nat} (h : m ≤ n) : (sgs i n).take m = sgs i m := mapr_take (sgv i) h
theorem sign_ok (w : World) {z1 z2 : Int} {i j : Nat} [e1 : IsN z1 i] [e2 : IsN z2 j] (hi : i < 9223372036854775808) (hj : j < 9223372036854775808) :
    Cl Tryz.prog 72 #[.int .i64 z1, .int .i64 z2] w (fun e w' => e = .returned (.int .u64 (sgv i j : Int)) ∧ Ext w w') := by
  obtain rfl := e1.out
  obtain rfl := e2.out
  refine enter Tryz.func72 rfl rfl rfl ?_
  have hF := Fk.refl (fun _ => False) w
  repeat' (first | (refine TL.isOp ?_; first | (apply TL.ev; (case hd => rfl); (case h => (first | exact ev_simple rfl | (apply Ev.isBin; first | exact ev_arU rfl rfl rfl (by first | exact True.intro | omega)) | exact ev_convU rfl (by omega))))) | (refine T.is ?_; first | refine T.seq ?_ | refine T.region ?_ | refine T.ret ?_) | (refine G.is ?_; first | refine G.next ?_) | refine TL.nil ?_)
  exact G.ret1 rfl rfl ⟨rfl, hF.ext⟩
set_option maxRecDepth 100000 in
theorem holds_t (w : World) {z : Int} {i : Nat} [e0 : IsN z i] (A A' : Option Addr) (n c c' : Nat) (hi : i < 9223372036854775808) (hn : n ≤ 17592186044416) (hs : Sl u64v w.heap w.heap.size A n c (sgs i n)) (hs' : Sl u64v w.heap w.heap.size A' (n + 80) c' (sgs i (n + 80))) :
    Cl Tryz.prog 73 #[.int .i64 z, .slice A n c, .slice A' (n + 80) c'] w (YesB w) := by
  obtain rfl := e0.out
  refine enter Tryz.func73 rfl rfl rfl ?_
  have hF := Fk.refl (fun _ => False) w
  repeat' (first | (refine TL.isOp ?_; first | (refine TL.isBin ?_; refine TL.cmpG rfl rfl rfl rfl (fun hc => ?_) (fun hc => ?_) <;> (try (first | (exfalso; omega) | exact absurd rfl hc))) | (apply TL.ev; (case hd => rfl); (case h => (first | exact ev_simple rfl | (apply Ev.isBin; first | exact ev_arN rfl rfl rfl (by omega)) | exact ev_len rfl)))) | (refine T.is ?_; first | refine T.seq ?_ | refine T.region ?_ | refine T.block ?_ | refine T.cond_f rfl ?_ | refine T.skip ?_) | (refine G.is ?_; first | refine G.next ?_) | refine TL.nil ?_)
  refine T.loop (α := Nat) (fun j => [(0, .int .i64 (i : Int)), (1, .slice A n c), (2, .slice A' (n + 80) c'), (7, .int .i64 (j : Int))])
    (fun j w' => j ≤ n ∧ Fk (fun _ => False) w w' [] []) (fun j => n - j) 0 (by repeat (first | exact Sub.nil _ | refine Sub.cons rfl ?_ | refine Sub.cons' rfl (int_congr (by omega)) ?_)) ⟨Nat.zero_le _, hF⟩ ?_
  clear hF
  rintro j w2 ⟨hj, hF⟩
  rcases Nat.lt_or_ge j n with hjn | hjn
  · have hv := sgs_get (i := i) hjn
    repeat' (first | (refine TL.isOp ?_; first | (refine TL.isCall ?_; refine TL.call rfl rfl ?_; first | (refine (sign_ok (i := i) (j := j) _ (by omega) (by omega)).mono ?_; rintro _ wy ⟨rfl, hE⟩; replace hF := hF.exts hE; clear hE; refine Back.mk ?_)) | (refine TL.isBin ?_; refine TL.cmpG rfl rfl rfl rfl (fun hc => ?_) (fun hc => ?_) <;> (try (first | (exfalso; omega) | exact absurd rfl hc))) | (apply TL.ev; (case hd => rfl); (case h => (first | exact ev_simple rfl | (apply Ev.isBin; first | exact ev_arN rfl rfl rfl (by omega)) | exact ev_len rfl)))) | (refine TF.is ?_; first | refine TF.nil ?_ | refine TF.e rfl ?_ | (refine TF.pick rfl ?_; first | (refine TFo.cmpG rfl rfl rfl rfl (fun hc => ?_) (fun hc => ?_) <;> (try (first | (exfalso; omega) | exact absurd rfl hc))) | (apply TFo.ev; (case hd => rfl); (case h => (intro wh hF; first | exact ev_simple rfl | (apply Ev.isLoad; first | exact ev_loadU rfl (hs.ext hF.ext) hjn) | exact ev_indexN rfl rfl hjn (hs.ext hF.ext).some))))) | (refine T.is ?_; first | refine T.seq ?_ | refine T.region ?_ | refine T.block ?_ | refine T.cond_t rfl ?_ | refine T.cond_f rfl ?_ | refine T.skip ?_ | (refine T.regionFk hF 6 8 (.s 0 (.s 1 (.s 2 (.s 3 (.s 4 (.s 5 (.e 6 (.s 7 .nil)))))))) mixed (by kernel_rfl) ?_; clear hF; intro wr hF)) | (refine G.is ?_; first | refine G.next ?_ | refine G.blockN ?_ | refine G.only ?_ | refine G.tree rfl (by first | exact hF | exact hF.weak (by repeat (first | exact List.Sublist.refl _ | apply List.Sublist.cons)) (by repeat (first | exact List.Sublist.refl _ | apply List.Sublist.cons))) ?_) | refine TL.nil ?_)
    exact G.again (j + 1) (by repeat (first | exact Sub.nil _ | refine Sub.cons rfl ?_ | refine Sub.cons' rfl (int_congr (by omega)) ?_)) ⟨by omega, hF⟩ (by omega)
  · obtain rfl : j = n := by omega
    repeat' (first | (refine TL.isOp ?_; first | (refine TL.isBin ?_; refine TL.cmpG rfl rfl rfl rfl (fun hc => ?_) (fun hc => ?_) <;> (try (first | (exfalso; omega) | exact absurd rfl hc))) | (apply TL.ev; (case hd => rfl); (case h => (first | exact ev_simple rfl | exact ev_len rfl)))) | (refine T.is ?_; first | refine T.seq ?_ | refine T.region ?_ | refine T.block ?_ | refine T.cond_f rfl ?_ | refine T.exit ?_) | (refine G.is ?_; first | refine G.next ?_ | refine G.blockE ?_ | refine G.thenE ?_) | refine TL.nil ?_)
    refine T.loop (α := Nat) (fun q => [(0, .int .i64 (i : Int)), (1, .slice A j c), (2, .slice A' (j + 80) c'), (8, .int .i64 (q : Int))])
      (fun q w' => q ≤ j + 80 ∧ Fk (fun _ => False) w w' [] []) (fun q => j + 80 - q) 0 (by repeat (first | exact Sub.nil _ | refine Sub.cons rfl ?_ | refine Sub.cons' rfl (int_congr (by omega)) ?_)) ⟨Nat.zero_le _, hF⟩ ?_
    clear hF
    rintro q w2 ⟨hq, hF⟩
    rcases Nat.lt_or_ge q (j + 80) with hqn | hqn
    · have hv := sgs_get (i := i) hqn
      repeat' (first | (refine TL.isOp ?_; first | (refine TL.isCall ?_; refine TL.call rfl rfl ?_; first | (refine (sign_ok (i := i) (j := q) _ (by omega) (by omega)).mono ?_; rintro _ wy ⟨rfl, hE⟩; replace hF := hF.exts hE; clear hE; refine Back.mk ?_)) | (refine TL.isBin ?_; refine TL.cmpG rfl rfl rfl rfl (fun hc => ?_) (fun hc => ?_) <;> (try (first | (exfalso; omega) | exact absurd rfl hc))) | (apply TL.ev; (case hd => rfl); (case h => (first | exact ev_simple rfl | (apply Ev.isBin; first | exact ev_arN rfl rfl rfl (by omega)) | exact ev_len rfl)))) | (refine TF.is ?_; first | refine TF.nil ?_ | refine TF.e rfl ?_ | (refine TF.pick rfl ?_; first | (refine TFo.cmpG rfl rfl rfl rfl (fun hc => ?_) (fun hc => ?_) <;> (try (first | (exfalso; omega) | exact absurd rfl hc))) | (apply TFo.ev; (case hd => rfl); (case h => (intro wh hF; first | exact ev_simple rfl | (apply Ev.isLoad; first | exact ev_loadU rfl (hs'.ext hF.ext) hqn) | exact ev_indexN rfl rfl hqn (hs'.ext hF.ext).some))))) | (refine T.is ?_; first | refine T.seq ?_ | refine T.region ?_ | refine T.block ?_ | refine T.cond_t rfl ?_ | refine T.cond_f rfl ?_ | refine T.skip ?_ | (refine T.regionFk hF 11 8 (.s 0 (.s 1 (.s 2 (.s 3 (.s 4 (.s 5 (.e 6 (.s 7 .nil)))))))) mixed (by kernel_rfl) ?_; clear hF; intro wr hF)) | (refine G.is ?_; first | refine G.next ?_ | refine G.blockN ?_ | refine G.only ?_ | refine G.tree rfl (by first | exact hF | exact hF.weak (by repeat (first | exact List.Sublist.refl _ | apply List.Sublist.cons)) (by repeat (first | exact List.Sublist.refl _ | apply List.Sublist.cons))) ?_) | refine TL.nil ?_)
      exact G.again (q + 1) (by repeat (first | exact Sub.nil _ | refine Sub.cons rfl ?_ | refine Sub.cons' rfl (int_congr (by omega)) ?_)) ⟨by omega, hF⟩ (by omega)
    · obtain rfl : q = j + 80 := by omega
      repeat' (first | (refine TL.isOp ?_; first | (refine TL.isBin ?_; refine TL.cmpG rfl rfl rfl rfl (fun hc => ?_) (fun hc => ?_) <;> (try (first | (exfalso; omega) | exact absurd rfl hc))) | (apply TL.ev; (case hd => rfl); (case h => (first | exact ev_simple rfl | exact ev_len rfl)))) | (refine T.is ?_; first | refine T.seq ?_ | refine T.region ?_ | refine T.cond_f rfl ?_ | refine T.exit ?_ | refine T.ret ?_) | (refine G.is ?_; first | refine G.next ?_ | refine G.blockE ?_ | refine G.thenE ?_) | refine TL.nil ?_)
      exact G.ret1 rfl rfl ⟨rfl, hF.ext⟩
end Go.Proofs.YtlpheckjogphmaaGreat
namespace Go.Proofs.YtlpheckjogphmaaGreat
open Go Go.Eng Go.Proofs Go.NatM Go.RowKit
abbrev blk (A : Option Addr) (k : Nat) : Prop := A = some ⟨k, 0, none⟩
def saA (ws : List (SA Nat)) (i : Nat) : SA Nat := ws.getD i default
def dkB (ws : List (SA Nat)) (f : Nat → List Nat) : DK where
  p H := ∀ i, i < ws.length → Ow u64v H 0 64 (saA ws i).A (saA ws i).n (saA ws i).c (f i)
  fp k := ∃ i, i < ws.length ∧ blk (saA ws i).A k
  lt H k h := fun ⟨i, hi, hk⟩ => (h i hi).blt hk
  st H H' hd h := fun i hi => (h i hi).de hd fun k hk => ⟨i, hi, hk⟩
def Own (ws : List (SA Nat)) : Prop := ∀ i j, i < ws.length → j < ws.length → i ≠ j → ∀ k, blk (saA ws i).A k → ¬ blk (saA ws j).A k
def inBook (ws : List (SA Nat)) (k : Nat) : Prop := ∃ i, i < ws.length ∧ blk (saA ws i).A k
theorem dkB_upd {w w' : World} {ws : List (SA Nat)} {f f' : Nat → List Nat} {i : Nat} (hd : Own ws) (h : (dkB ws f).p w.heap) (hi : i < ws.length) (hE : Exs (fun j => blk (saA ws i).A j) w w')
    (hO : Ow u64v w'.heap 0 64 (saA ws i).A (saA ws i).n (saA ws i).c (f' i)) (hf : ∀ j, j ≠ i → f' j = f j) : (dkB ws f').p w'.heap := fun j hj => by
  by_cases e : j = i
  · subst e; exact hO
  · rw [hf j e]; exact (h j hj).exs hE fun k hk => hd j i hj hi e k hk
theorem bk_vr {α : Type} {f : α → Value} {H : Array Obj} {b : Nat} {t : TypeId} {l : List α} (h : Bk f H b t l) : Vr H b t (l.map f) := by unfold Bk at h; exact h
theorem vr_bk {α : Type} {f : α → Value} {H : Array Obj} {b : Nat} {t : TypeId} {l : List α} (h : Vr H b t (l.map f)) : Bk f H b t l := by unfold Bk; exact h
theorem take_set_succ {α : Type} : ∀ {l : List α} {j : Nat} {v : α}, j < l.length → (l.set j v).take (j + 1) = l.take j ++ [v]
  | [], j, v, h => by simp at h
  | a :: l, 0, v, h => by simp
  | a :: l, j + 1, v, h => by simp [take_set_succ (l := l) (j := j) (v := v) (by simpa using h)]
def dkG (ws G : List (SA Nat)) (i : Nat) : DK where
  p H := (∀ k, k < ws.length → Ow u64v H 0 64 (saA ws k).A (saA ws k).n (saA ws k).c (sgs k (saA ws k).n)) ∧ ∀ k, k < i → Ow u64v H 0 64 (saA G k).A ((saA ws k).n + 80) (saA G k).c (sgs k ((saA ws k).n + 80))
  fp b := inBook ws b ∨ ∃ k, k < i ∧ blk (saA G k).A b
  lt H k h := fun hf => hf.elim (fun ⟨i, hi, hk⟩ => (h.1 i hi).blt hk) (fun ⟨i, hi, hk⟩ => (h.2 i hi).blt hk)
  st H H' hd h := ⟨fun k hk => (h.1 k hk).de hd fun b hb => .inl ⟨k, hk, hb⟩, fun k hk => (h.2 k hk).de hd fun b hb => .inr ⟨k, hk, hb⟩⟩
def dkR (ws G : List (SA Nat)) (i : Nat) : DK where
  p H := (∀ k, k < ws.length → k ≠ i → Ow u64v H 0 64 (saA ws k).A (saA ws k).n (saA ws k).c (sgs k (saA ws k).n)) ∧ ∀ k, k < i → Ow u64v H 0 64 (saA G k).A ((saA ws k).n + 80) (saA G k).c (sgs k ((saA ws k).n + 80))
  fp b := (∃ k, k < ws.length ∧ k ≠ i ∧ blk (saA ws k).A b) ∨ ∃ k, k < i ∧ blk (saA G k).A b
  lt H k h := fun hf => hf.elim (fun ⟨i, hi, hne, hk⟩ => (h.1 i hi hne).blt hk) (fun ⟨i, hi, hk⟩ => (h.2 i hi).blt hk)
  st H H' hd h := ⟨fun k hk hne => (h.1 k hk hne).de hd fun b hb => .inl ⟨k, hk, hne, hb⟩, fun k hk => (h.2 k hk).de hd fun b hb => .inr ⟨k, hk, hb⟩⟩
def dkC (i : Nat) (A : Option Addr) (n c : Nat) (A2 : Option Addr) (m c2 : Nat) : DK where
  p H := Ow u64v H 0 64 A n c (sgs i n) ∧ Ow u64v H 0 64 A2 m c2 (sgs i m)
  fp b := blk A b ∨ blk A2 b
  lt H k h := fun hf => hf.elim (fun hk => h.1.blt hk) (fun hk => h.2.blt hk)
  st H H' hd h := ⟨h.1.de hd fun b hb => .inl hb, h.2.de hd fun b hb => .inr hb⟩
set_option maxRecDepth 100000 in
theorem words_ok (w : World) (bb : Nat) (ws : List (SA Nat)) (WA : Option Addr) (wn wc : Nat) (y z : Value) (hV : Vr w.heap bb 54 [.slice WA wn wc, y, z]) (hW : Sl sav w.heap w.heap.size WA wn wc ws)
    (hO : (dkB ws (fun i => (saA ws i).l)).p w.heap) (hd : Own ws) (hbb : ¬ inBook ws bb) (hbW : ∀ k, fpA WA wn k → ¬ inBook ws k) (hn : wn ≤ 4294967296) (hl : ∀ i, i < wn → (saA ws i).n ≤ 1099511627776) :
    Cl Tryz.prog 51 #[.pointer (some ⟨bb, 0, none⟩)] w (fun e w' => e = .returned (.bool true) ∧ Exs (inBook ws) w w') := by
  have hlen := hW.len
  have hget : ∀ i, i < wn → ws[i]? = some (saA ws i) := fun i hi => by simp [saA, List.getD, show i < ws.length by omega]
  have hblt : ∀ i, i < ws.length → ∀ b, blk (saA ws i).A b → b < w.heap.size := fun i hi b hb => (hO i hi).blt hb
  refine enter Tryz.func51 rfl rfl rfl ?_
  have hF := Fk.own0 (S := inBook ws) (dkB ws (fun i => (saA ws i).l)) hO (fun k hk => hk)
  repeat' (first | (refine TL.isOp ?_; first | (apply TL.ev; (case hd => rfl); (case h => (first | exact ev_simple rfl)))) | (refine T.is ?_; first | refine T.seq ?_ | refine T.region ?_ | refine T.block ?_) | (refine G.is ?_; first | refine G.next ?_) | refine TL.nil ?_)
  refine T.loop (α := Nat × (Nat → List Nat)) (fun x => [(0, .pointer (some ⟨bb, 0, none⟩)), (3, .int .i64 (x.1 : Int))])
    (fun x w' => x.1 ≤ wn ∧ Fk (inBook ws) w w' [] [dkB ws x.2] ∧ ∀ k, k < x.1 → x.2 k = sgs k (saA ws k).n)
    (fun x => wn - x.1) (0, fun i => (saA ws i).l) (by repeat (first | exact Sub.nil _ | refine Sub.cons rfl ?_ | refine Sub.cons' rfl (int_congr (by omega)) ?_)) ⟨Nat.zero_le _, hF, fun k hk => absurd hk (Nat.not_lt_zero _)⟩ ?_
  clear hF
  rintro ⟨i, f⟩ w2 ⟨hi, hF, hf⟩
  dsimp only at hi hF hf ⊢
  rcases Nat.lt_or_ge i wn with hin | hin
  · have hg := hget i hin
    have hni := hl i hin
    generalize hx : saA ws i = x at hg hni
    obtain ⟨A, n, c, l⟩ := x
    dsimp only at hni
    repeat' (first | (refine TL.isOp ?_; first | (refine TL.isBin ?_; refine TL.cmpG rfl rfl rfl rfl (fun hc => ?_) (fun hc => ?_) <;> (try (first | (exfalso; omega) | exact absurd rfl hc))) | (apply TL.ev; (case hd => rfl); (case h => (first | exact ev_simple rfl | (apply Ev.isLoad; first | exact ev_loadV rfl (hV.exs hF.exs hbb) rfl | exact ev_loadSl (f := sav) rfl (hW.exs hF.exs hbW) hg) | exact ev_len rfl | exact ev_fieldAddr rfl | exact ev_nilCheck rfl | exact ev_indexN rfl rfl hin (hW.exs hF.exs hbW).some)))) | (refine T.is ?_; first | refine T.seq ?_ | refine T.region ?_ | refine T.block ?_ | refine T.cond_t rfl ?_ | refine T.skip ?_) | (refine G.is ?_; first | refine G.next ?_) | refine TL.nil ?_)
    refine T.loop (α := Nat × (Nat → List Nat)) (fun q => [(0, .pointer (some ⟨bb, 0, none⟩)), (3, .int .i64 (i : Int)), (4, .slice A n c), (5, .int .i64 (q.1 : Int))])
      (fun q w' => q.1 ≤ n ∧ Fk (inBook ws) w w' [] [dkB ws q.2] ∧ (∀ k, k < i → q.2 k = sgs k (saA ws k).n) ∧ (q.2 i).take q.1 = sgs i q.1)
      (fun q => n - q.1) (0, f) (by repeat (first | exact Sub.nil _ | refine Sub.cons rfl ?_ | refine Sub.cons' rfl (int_congr (by omega)) ?_)) ⟨Nat.zero_le _, hF, hf, by simp [sgs]⟩ ?_
    clear hF hf f
    rintro ⟨j, f⟩ w2 ⟨hj, hF, hf, hfi⟩
    dsimp only at hj hF hf hfi ⊢
    have hOi := hF.get kmemH i (by omega)
    rw [hx] at hOi
    dsimp only at hOi
    have hlen2 := (ow_iff.1 hOi).1
    clear hOi
    rcases Nat.lt_or_ge j n with hjn | hjn
    · repeat' (first | (refine TL.isOp ?_; first | (refine TL.isCall ?_; refine TL.call rfl rfl ?_; first | (refine (sign_ok (i := i) (j := j) _ (by omega) (by omega)).mono ?_; rintro _ wy ⟨rfl, hE⟩; replace hF := hF.exts hE; clear hE; have hOk := hF.get kmemH i (by omega); rw [hx] at hOk; dsimp only at hOk; refine Back.mk ?_)) | (refine TL.isBin ?_; refine TL.cmpG rfl rfl rfl rfl (fun hc => ?_) (fun hc => ?_) <;> (try (first | (exfalso; omega) | exact absurd rfl hc))) | (apply TL.ev; (case hd => rfl); (case h => (first | exact ev_simple rfl | (apply Ev.isBin; first | exact ev_arN rfl rfl rfl (by omega)) | exact ev_len rfl | exact ev_indexN rfl rfl hjn (hOk.sl (Nat.le_refl _)).some))) | (refine TL.storeOw rfl rfl hOk hjn ?_; intro ws1 hOs hEs)) | (refine T.is ?_; first | refine T.seq ?_ | refine T.region ?_ | refine T.block ?_ | refine T.cond_t rfl ?_ | refine T.skip ?_) | (refine G.is ?_; first | refine G.next ?_ | refine G.blockN ?_) | refine TL.nil ?_)
      have hF2 := hF.write (e := dkB ws (fun k => if k = i then (f i).set j (sgv i j) else f k)) SetD.head (hEs.mono fun k _ hk => ⟨i, by omega, by rw [hx]; exact hk⟩)
        (dkB_upd hd (hF.get kmemH) (i := i) (by omega) (by rw [hx]; exact hEs) (by rw [hx]; dsimp only; rw [if_pos rfl]; exact hOs) (fun j hj => if_neg hj)) (fun k hk => .inl hk)
      refine G.again (j + 1, fun k => if k = i then (f i).set j (sgv i j) else f k) (by repeat (first | exact Sub.nil _ | refine Sub.cons rfl ?_ | refine Sub.cons' rfl (int_congr (by omega)) ?_)) ⟨by dsimp only; omega, hF2, fun k hk => ?_, ?_⟩ (by dsimp only; omega)
      · show (if k = i then _ else f k) = _
        rw [if_neg (Nat.ne_of_lt hk)]; exact hf k hk
      · show (if i = i then (f i).set j (sgv i j) else f i).take (j + 1) = _
        rw [if_pos rfl, take_set_succ (by omega), hfi, ← sgs_succ]
    · obtain rfl : n = j := by omega
      repeat' (first | (refine TL.isOp ?_; first | (refine TL.isBin ?_; refine TL.cmpG rfl rfl rfl rfl (fun hc => ?_) (fun hc => ?_) <;> (try (first | (exfalso; omega) | exact absurd rfl hc))) | (apply TL.ev; (case hd => rfl); (case h => (first | exact ev_simple rfl | (apply Ev.isBin; first | exact ev_arN rfl rfl rfl (by omega)) | exact ev_len rfl)))) | (refine T.is ?_; first | refine T.seq ?_ | refine T.region ?_ | refine T.cond_f rfl ?_ | refine T.exit ?_) | (refine G.is ?_; first | refine G.next ?_ | refine G.blockN ?_ | refine G.blockE ?_ | refine G.thenE ?_) | refine TL.nil ?_)
      have e1 : f i = sgs i n := by rw [← hfi, List.take_of_length_le (by omega)]
      refine G.again (i + 1, f) (by repeat (first | exact Sub.nil _ | refine Sub.cons rfl ?_ | refine Sub.cons' rfl (int_congr (by omega)) ?_)) ⟨by dsimp only; omega, hF, fun k hk => ?_⟩ (by dsimp only; omega)
      dsimp only at hk ⊢
      rcases Nat.lt_or_ge k i with h | h
      · exact hf k h
      · obtain rfl : k = i := by omega
        rw [hx]; exact e1
  · obtain rfl : wn = i := by omega
    repeat' (first | (refine TL.isOp ?_; first | (refine TL.isBin ?_; refine TL.cmpG rfl rfl rfl rfl (fun hc => ?_) (fun hc => ?_) <;> (try (first | (exfalso; omega) | exact absurd rfl hc))) | (apply TL.ev; (case hd => rfl); (case h => (first | exact ev_simple rfl | (apply Ev.isLoad; first | exact ev_loadV rfl (hV.exs hF.exs hbb) rfl) | exact ev_len rfl | exact ev_fieldAddr rfl | exact ev_nilCheck rfl))) | (refine TL.make sav default (d := 44) rfl rfl rfl rfl rfl (Nat.le_refl _) (by omega) ?_; intro wg bg ebg hBg hEg hzg; replace hF := hF.new ebg (bk_vr hBg) hEg; clear ebg hBg hEg hzg)) | (refine T.is ?_; first | refine T.seq ?_ | refine T.region ?_ | refine T.block ?_ | refine T.cond_f rfl ?_ | refine T.exit ?_) | (refine G.is ?_; first | refine G.next ?_ | refine G.blockE ?_ | refine G.thenE ?_) | refine TL.nil ?_)
    have hF2 := hF.re [dkG ws (List.replicate wn default) 0] (fun d hd => by
      rw [List.mem_singleton] at hd; subst hd
      exact ⟨fun k hk => by have := hF.get kmemH k hk; rw [hf k (by omega)] at this; exact this, fun k hk => absurd hk (Nat.not_lt_zero _)⟩) (fun d hd k hk => by
      rw [List.mem_singleton] at hd; subst hd
      exact ⟨_, kmemH, hk.elim id fun ⟨i, hi, _⟩ => absurd hi (Nat.not_lt_zero _)⟩) (List.pairwise_singleton _ _)
    clear hF hf f
    refine T.loop (α := Nat × List (SA Nat)) (fun x => [(0, .pointer (some ⟨bb, 0, none⟩)), (6, .slice (some ⟨bg, 0, none⟩) wn wn), (7, .int .i64 (x.1 : Int))])
      (fun x w' => x.1 ≤ wn ∧ x.2.length = wn ∧ Fk (inBook ws) w w' [⟨bg, 25, x.2.map sav⟩] [dkG ws x.2 x.1] ∧ ∀ k, k < x.1 → (saA x.2 k).n = (saA ws k).n + 80 ∧ ((saA x.2 k).A = (saA ws k).A ∨ ∀ b, blk (saA x.2 k).A b → w.heap.size ≤ b))
      (fun x => wn - x.1) (0, List.replicate wn default) (by repeat (first | exact Sub.nil _ | refine Sub.cons rfl ?_ | refine Sub.cons' rfl (int_congr (by omega)) ?_)) ⟨Nat.zero_le _, by simp, hF2, fun k hk => absurd hk (Nat.not_lt_zero _)⟩ ?_
    clear hF2
    rintro ⟨i, Gs⟩ w2 ⟨hi, hG, hF, hGk⟩
    dsimp only at hi hG hF hGk ⊢
    rcases Nat.lt_or_ge i wn with hin | hin
    · have hg := hget i hin
      have hni := hl i hin
      have hbi := hblt i (by omega)
      have hdi := fun k hk hne => hd i k (by omega) hk hne
      generalize hx : saA ws i = x at hg hni hbi hdi
      obtain ⟨A, n, c, l⟩ := x
      dsimp only at hni hbi hdi
      repeat' (first | (refine TL.isOp ?_; first | (refine TL.isBin ?_; refine TL.cmpG rfl rfl rfl rfl (fun hc => ?_) (fun hc => ?_) <;> (try (first | (exfalso; omega) | exact absurd rfl hc))) | (apply TL.ev; (case hd => rfl); (case h => (first | exact ev_simple rfl | (apply Ev.isLoad; first | exact ev_loadV rfl (hV.exs hF.exs hbb) rfl | exact ev_loadSl (f := sav) rfl (hW.exs hF.exs hbW) hg) | exact ev_len rfl | exact ev_fieldAddr rfl | exact ev_nilCheck rfl | exact ev_indexN rfl rfl hin (hW.exs hF.exs hbW).some)))) | (refine T.is ?_; first | refine T.seq ?_ | refine T.region ?_ | refine T.block ?_ | refine T.cond_t rfl ?_ | refine T.skip ?_) | (refine G.is ?_; first | refine G.next ?_) | refine TL.nil ?_)
      have hF2 := hF.re [dkC i A n c A n c, dkR ws Gs i] (fun d hd => by
        rcases List.mem_cons.1 hd with rfl | hd
        · have h1 := (hF.get kmemH).1 i (by omega)
          rw [hx] at h1
          exact ⟨h1, h1⟩
        · rw [List.mem_singleton] at hd; subst hd
          exact ⟨fun k hk _ => (hF.get kmemH).1 k hk, (hF.get kmemH).2⟩) (fun d hd k hk => by
        refine ⟨_, kmemH, ?_⟩
        rcases List.mem_cons.1 hd with rfl | hd
        · exact .inl ⟨i, by omega, by rw [hx]; exact hk.elim id id⟩
        · rw [List.mem_singleton] at hd; subst hd
          exact hk.imp (fun ⟨k, h1, _, h2⟩ => ⟨k, h1, h2⟩) id) (List.pairwise_cons.2 ⟨fun e he b hb => by
        rw [List.mem_singleton] at he; subst he
        have hb' : blk A b := hb.elim id id
        rintro (⟨k, h1, h2, h3⟩ | ⟨k, h1, h3⟩)
        · exact hdi k h1 (Ne.symm h2) b hb' h3
        · rcases (hGk k h1).2 with h4 | h4
          · rw [h4] at h3; exact hdi k (by omega) (by omega) b hb' h3
          · have := h4 b h3; have := hbi b hb'; omega, List.pairwise_singleton _ _⟩)
      clear hF
      refine T.loop (α := Nat × Option Addr × Nat) (fun q => [(0, .pointer (some ⟨bb, 0, none⟩)), (6, .slice (some ⟨bg, 0, none⟩) wn wn), (7, .int .i64 (i : Int)), (8, .slice q.2.1 (n + q.1) q.2.2), (9, .int .i64 (q.1 : Int))])
        (fun q w' => q.1 ≤ 80 ∧ Fk (inBook ws) w w' [⟨bg, 25, Gs.map sav⟩] [dkC i A n c q.2.1 (n + q.1) q.2.2, dkR ws Gs i] ∧ (q.2.1 = A ∧ q.2.2 = c ∨ ∀ b, blk q.2.1 b → w.heap.size ≤ b))
        (fun q => 80 - q.1) (0, A, c) (by repeat (first | exact Sub.nil _ | refine Sub.cons rfl ?_ | refine Sub.cons' rfl (int_congr (by omega)) ?_)) ⟨Nat.zero_le _, hF2, .inl ⟨rfl, rfl⟩⟩ ?_
      clear hF2
      rintro ⟨q, A2, c2⟩ w2 ⟨hq, hF, hA2⟩
      dsimp only at hq hF hA2 ⊢
      rcases Nat.lt_or_ge q 80 with hqn | hqn
      · repeat' (first | (refine TL.isOp ?_; first | (refine TL.isCall ?_; refine TL.call rfl rfl ?_; first | (refine (sign_ok (i := i) (j := n + q) _ (by omega) (by omega)).mono ?_; rintro _ wy ⟨rfl, hE⟩; replace hF := hF.exts hE; clear hE; refine Back.mk ?_)) | (refine TL.isBin ?_; refine TL.cmpG rfl rfl rfl rfl (fun hc => ?_) (fun hc => ?_) <;> (try (first | (exfalso; omega) | exact absurd rfl hc))) | (apply TL.ev; (case hd => rfl); (case h => (first | exact ev_simple rfl | (apply Ev.isBin; first | exact ev_arN rfl rfl rfl (by omega)) | exact ev_len rfl))) | (refine TL.build1U (d := 70) rfl rfl ?_; intro w70 b70 eb hB hE hz; have hSn := (hB.slN (n := 1) (c := 1) rfl (Nat.le_refl _) hB.lt).size; replace hF := hF.exts hE; clear hB hE hz eb) | (refine TL.appendOw rfl rfl rfl (hF.get kmemH).2 hSn (by omega) ?_; intro w71 A3 c3 hO3 hcase)) | (refine T.is ?_; first | refine T.seq ?_ | refine T.region ?_ | refine T.block ?_ | refine T.cond_t rfl ?_ | refine T.skip ?_) | (refine G.is ?_; first | refine G.next ?_ | refine G.blockN ?_) | refine TL.nil ?_)
        rw [← sgs_succ] at hO3
        have hOA := (hF.get kmemH).1
        have hfin : Fk (inBook ws) w w71 [⟨bg, 25, Gs.map sav⟩] [dkC i A n c A3 (n + (q + 1)) c3, dkR ws Gs i] ∧ (A3 = A ∧ c3 = c ∨ ∀ b, blk A3 b → w.heap.size ≤ b) := by
          rcases hcase with ⟨rfl, rfl, hE3⟩ | ⟨hfr, hE3⟩
          · refine ⟨hF.write SetD.head (hE3.mono fun k _ hk => .inr hk) ⟨?_, hO3⟩ (fun k hk => .inl hk), hA2⟩
            rcases hA2 with ⟨rfl, rfl⟩ | h
            · have := hO3.take (k := n) (by omega)
              rwa [sgs_take (by omega)] at this
            · exact hOA.exs hE3 fun k hk hk' => by have := h k hk'; have := hbi k hk; omega
          · exact ⟨hF.write SetD.head (.of hE3) ⟨hOA.ext hE3, hO3⟩ (fun k hk => hk.elim (fun h => .inl (.inl h)) (fun h => .inr (hfr k h))), .inr fun b hb => Nat.le_trans hF.exs.size (hfr b hb)⟩
        exact G.again (q + 1, A3, c3) (by repeat (first | exact Sub.nil _ | refine Sub.cons rfl ?_ | refine Sub.cons' rfl (int_congr (by omega)) ?_)) ⟨by dsimp only; omega, hfin⟩ (by dsimp only; omega)
      · obtain rfl : q = 80 := by omega
        repeat' (first | (refine TL.isOp ?_; first | (refine TL.isBin ?_; refine TL.cmpG rfl rfl rfl rfl (fun hc => ?_) (fun hc => ?_) <;> (try (first | (exfalso; omega) | exact absurd rfl hc))) | (apply TL.ev; (case hd => rfl); (case h => (first | exact ev_simple rfl | (apply Ev.isBin; first | exact ev_arN rfl rfl rfl (by omega)) | exact ev_indexN rfl rfl hin (.inr rfl)))) | (refine TL.storeS ⟨A2, n + 80, c2, []⟩ ⟨rfl, rfl, rfl⟩ rfl rfl (vr_bk (hF.var InV.head)) (by omega) ?_; intro ws2 hB2 hU2; replace hF := hF.store SetV.head hU2 (bk_vr hB2); clear hB2 hU2)) | (refine T.is ?_; first | refine T.seq ?_ | refine T.region ?_ | refine T.cond_f rfl ?_ | refine T.exit ?_) | (refine G.is ?_; first | refine G.next ?_ | refine G.blockN ?_ | refine G.blockE ?_ | refine G.thenE ?_) | refine TL.nil ?_)
        have hGi : saA (Gs.set i ⟨A2, n + 80, c2, []⟩) i = ⟨A2, n + 80, c2, []⟩ := by simp [saA, List.getD, show i < Gs.length by omega]
        have hGo : ∀ k, k ≠ i → saA (Gs.set i ⟨A2, n + 80, c2, []⟩) k = saA Gs k := fun k hk => by simp [saA, List.getD, List.getElem?_set_ne (Ne.symm hk)]
        generalize hGs : Gs.set i ⟨A2, n + 80, c2, []⟩ = Gt at hF hGi hGo
        have hGl : Gt.length = wn := by rw [← hGs, List.length_set]; exact hG
        have hF2 := hF.re [dkG ws Gt (i + 1)] (fun d hd => by
          rw [List.mem_singleton] at hd; subst hd
          have h1 := hF.get kmemH
          have h2 := hF.get (kmemT kmemH)
          refine ⟨fun k hk => ?_, fun k hk => ?_⟩
          · by_cases e : k = i
            · subst e; rw [hx]; exact h1.1
            · exact h2.1 k hk e
          · by_cases e : k = i
            · subst e; rw [hGi, hx]; exact h1.2
            · rw [hGo k e]; exact h2.2 k (by omega)) (fun d hd b hb => by
          rw [List.mem_singleton] at hd; subst hd
          rcases hb with ⟨k, h1, h2⟩ | ⟨k, h1, h2⟩
          · by_cases e : k = i
            · subst e; rw [hx] at h2; exact ⟨_, kmemH, .inl h2⟩
            · exact ⟨_, kmemT kmemH, .inl ⟨k, h1, e, h2⟩⟩
          · by_cases e : k = i
            · subst e; rw [hGi] at h2; exact ⟨_, kmemH, .inr h2⟩
            · rw [hGo k e] at h2; exact ⟨_, kmemT kmemH, .inr ⟨k, by omega, h2⟩⟩) (List.pairwise_singleton _ _)
        refine G.again (i + 1, Gt) (by repeat (first | exact Sub.nil _ | refine Sub.cons rfl ?_ | refine Sub.cons' rfl (int_congr (by omega)) ?_)) ⟨by dsimp only; omega, hGl, hF2, fun k hk => ?_⟩ (by dsimp only; omega)
        dsimp only at hk ⊢
        by_cases e : k = i
        · subst e
          rw [hGi, hx]
          exact ⟨rfl, hA2.imp (fun h => h.1) id⟩
        · rw [hGo k e]; exact hGk k (by omega)
    · obtain rfl : wn = i := by omega
      repeat' (first | (refine TL.isOp ?_; first | (refine TL.isBin ?_; refine TL.cmpG rfl rfl rfl rfl (fun hc => ?_) (fun hc => ?_) <;> (try (first | (exfalso; omega) | exact absurd rfl hc))) | (apply TL.ev; (case hd => rfl); (case h => (first | exact ev_simple rfl | (apply Ev.isLoad; first | exact ev_loadV rfl (hV.exs hF.exs hbb) rfl) | exact ev_len rfl | exact ev_fieldAddr rfl | exact ev_nilCheck rfl)))) | (refine T.is ?_; first | refine T.seq ?_ | refine T.region ?_ | refine T.block ?_ | refine T.cond_f rfl ?_ | refine T.exit ?_) | (refine G.is ?_; first | refine G.next ?_ | refine G.blockE ?_ | refine G.thenE ?_) | refine TL.nil ?_)
      refine T.loop (α := Nat) (fun i => [(0, .pointer (some ⟨bb, 0, none⟩)), (6, .slice (some ⟨bg, 0, none⟩) wn wn), (10, .int .i64 (i : Int))])
        (fun i w' => i ≤ wn ∧ Fk (inBook ws) w w' [⟨bg, 25, Gs.map sav⟩] [dkG ws Gs wn])
        (fun i => wn - i) 0 (by repeat (first | exact Sub.nil _ | refine Sub.cons rfl ?_ | refine Sub.cons' rfl (int_congr (by omega)) ?_)) ⟨Nat.zero_le _, hF⟩ ?_
      clear hF
      rintro i w2 ⟨hi, hF⟩
      rcases Nat.lt_or_ge i wn with hin | hin
      · have hg := hget i hin
        have hni := hl i hin
        have hG1 := (hGk i hin).1
        have hg2 : Gs[i]? = some (saA Gs i) := by simp [saA, List.getD, show i < Gs.length by omega]
        have hgt := fun (H : Array Obj) (h : (dkG ws Gs wn).p H) => And.intro (h.1 i (by omega)) (h.2 i hin)
        generalize saA ws i = x at hg hni hG1 hgt
        generalize saA Gs i = x2 at hg2 hG1 hgt
        obtain ⟨A, n, c, l⟩ := x
        obtain ⟨A2, n2, c2, l2⟩ := x2
        dsimp only at hni hG1 hgt
        subst hG1
        repeat' (first | (refine TL.isOp ?_; first | (refine TL.isCall ?_; refine TL.call rfl rfl ?_; first | (refine (holds_t (i := i) _ A A2 n c c2 (by omega) (by omega) ((hgt _ (hF.get kmemH)).1.sl (Nat.le_refl _)) ((hgt _ (hF.get kmemH)).2.sl (Nat.le_refl _))).mono ?_; rintro _ wy ⟨rfl, hE⟩; replace hF := hF.exts hE; clear hE; refine Back.mk ?_)) | (refine TL.isBin ?_; refine TL.cmpG rfl rfl rfl rfl (fun hc => ?_) (fun hc => ?_) <;> (try (first | (exfalso; omega) | exact absurd rfl hc))) | (apply TL.ev; (case hd => rfl); (case h => (first | exact ev_simple rfl | (apply Ev.isBin; first | exact ev_arN rfl rfl rfl (by omega)) | (apply Ev.isLoad; first | exact ev_loadV rfl (hV.exs hF.exs hbb) rfl) | exact ev_len rfl | exact ev_fieldAddr rfl | exact ev_nilCheck rfl)))) | (refine TF.is ?_; first | refine TF.nil ?_ | refine TF.e rfl ?_ | (refine TF.pick rfl ?_; first | (apply TFo.ev; (case hd => rfl); (case h => (intro wh hF; first | exact ev_simple rfl | (apply Ev.isLoad; first | exact ev_loadV rfl (hV.exs hF.exs hbb) rfl | exact ev_loadSl (f := sav) rfl (hW.exs hF.exs hbW) hg | exact ev_loadSl (f := sav) rfl ((vr_bk (hF.var InV.head)).slN hG (Nat.le_refl _) (hF.var InV.head).lt) hg2) | exact ev_fieldAddr rfl | exact ev_nilCheck rfl | exact ev_indexN rfl rfl hin (hW.exs hF.exs hbW).some | exact ev_indexN rfl rfl hin (.inr rfl)))))) | (refine T.is ?_; first | refine T.seq ?_ | refine T.region ?_ | refine T.block ?_ | refine T.cond_t rfl ?_ | refine T.cond_f rfl ?_ | refine T.skip ?_ | (refine T.regionFk hF 22 14 (.s 0 (.s 1 (.s 2 (.s 3 (.s 4 (.s 5 (.s 6 (.s 7 (.s 8 (.s 9 (.s 10 (.s 11 (.e 12 (.s 13 .nil)))))))))))))) mixed (by kernel_rfl) ?_; clear hF; intro wr hF)) | (refine G.is ?_; first | refine G.next ?_ | refine G.blockN ?_ | refine G.only ?_ | refine G.tree rfl (by first | exact hF | exact hF.weak (by repeat (first | exact List.Sublist.refl _ | apply List.Sublist.cons)) (by repeat (first | exact List.Sublist.refl _ | apply List.Sublist.cons))) ?_) | refine TL.nil ?_)
        exact G.again (i + 1) (by repeat (first | exact Sub.nil _ | refine Sub.cons rfl ?_ | refine Sub.cons' rfl (int_congr (by omega)) ?_)) ⟨by omega, hF⟩ (by omega)
      · obtain rfl : wn = i := by omega
        repeat' (first | (refine TL.isOp ?_; first | (refine TL.isBin ?_; refine TL.cmpG rfl rfl rfl rfl (fun hc => ?_) (fun hc => ?_) <;> (try (first | (exfalso; omega) | exact absurd rfl hc))) | (apply TL.ev; (case hd => rfl); (case h => (first | exact ev_simple rfl | (apply Ev.isLoad; first | exact ev_loadV rfl (hV.exs hF.exs hbb) rfl) | exact ev_len rfl | exact ev_fieldAddr rfl | exact ev_nilCheck rfl)))) | (refine T.is ?_; first | refine T.seq ?_ | refine T.region ?_ | refine T.cond_f rfl ?_ | refine T.exit ?_ | refine T.ret ?_) | (refine G.is ?_; first | refine G.next ?_ | refine G.blockE ?_ | refine G.thenE ?_) | refine TL.nil ?_)
        exact G.ret1 rfl rfl ⟨rfl, hF.exs⟩
end Go.Proofs.YtlpheckjogphmaaGreat
namespace Go.Eng
open Go Go.RowKit
def OwC {α : Type} (k : Nat) (f : α → List Value) (H : Array Obj) (e : TypeId) (A : Option Addr) (n c : Nat) (l : List α) : Prop :=
  l.length = n ∧ ((A = none ∧ n = 0 ∧ c = 0) ∨ ∃ g zs, A = some ⟨g, 0, none⟩ ∧ n ≤ c ∧ zs.length = (c - n) * k ∧ zs.all noU64 = true ∧ Vr H g e (l.flatMap f ++ zs))
section
variable {α : Type} {k : Nat} {f : α → List Value} {H H' : Array Obj} {e : TypeId} {A : Option Addr} {n c : Nat} {l : List α}
theorem OwC.len (h : OwC k f H e A n c l) : l.length = n := h.1
theorem OwC.blt (h : OwC k f H e A n c l) {b : Nat} (hb : A = some ⟨b, 0, none⟩) : b < H.size := by
  rcases h.2 with ⟨e, _⟩ | ⟨g, zs, e, _, _, _, hV⟩
  · rw [e] at hb; cases hb
  · rw [e] at hb; cases hb; exact hV.lt
theorem OwC.eqv (h : OwC k f H e A n c l) (he : ∀ b, A = some ⟨b, 0, none⟩ → b < H.size → H'[b]? = H[b]?) : OwC k f H' e A n c l := by
  refine ⟨h.1, h.2.imp id ?_⟩
  rintro ⟨g, zs, e1, h1, h2, h3, hV⟩
  exact ⟨g, zs, e1, h1, h2, h3, (he g e1 hV.lt).trans hV⟩
theorem OwC.exs {S : Nat → Prop} {w w' : World} (hE : Exs S w w') (hS : ∀ b, A = some ⟨b, 0, none⟩ → ¬ S b) (h : OwC k f w.heap e A n c l) : OwC k f w'.heap e A n c l := h.eqv fun b hb hl => hE.block b hl (hS b hb)
theorem OwC.ext {w w' : World} (hE : Ext w w') (h : OwC k f w.heap e A n c l) : OwC k f w'.heap e A n c l := h.eqv fun b _ hl => hE.block b hl
theorem OwC.de {F : Nat → Prop} (hE : DEk F H H') (hS : ∀ b, A = some ⟨b, 0, none⟩ → F b) (h : OwC k f H e A n c l) : OwC k f H' e A n c l := h.eqv fun b hb hl => hE.block b hl (hS b hb)
theorem OwC.sm (hk : 0 < k) (hw : ∀ x, (f x).length = k) (h : OwC k f H e A n c l) : Sm k f H H.size A n c l := by
  rcases h.2 with ⟨rfl, rfl, rfl⟩ | ⟨g, zs, rfl, h1, _, _, hV⟩
  · have hl := List.length_eq_zero_iff.1 h.1
    subst hl
    exact Sm.nil hk f H _ _ _
  · exact vr_sm hk (fun x _ => hw x) hV h.1 h1 hV.lt
theorem all_flat (hn : ∀ x, (f x).all noU64 = true) (l : List α) : (l.flatMap f).all noU64 = true := List.all_eq_true.2 fun v hv => by
  obtain ⟨x, _, hx⟩ := List.mem_flatMap.1 hv
  exact List.all_eq_true.1 (hn x) v hx
theorem all_app {a b : List Value} (ha : a.all noU64 = true) (hb : b.all noU64 = true) : (a ++ b).all noU64 = true := by rw [List.all_append, ha, hb]; rfl
theorem OwC.take (hw : ∀ x, (f x).length = k) (hn : ∀ x, (f x).all noU64 = true) (h : OwC k f H e A n c l) {m : Nat} (hm : m ≤ n) (h0 : A.isSome = true) : OwC k f H e A m c (l.take m) := by
  rcases h.2 with ⟨rfl, _⟩ | ⟨g, zs, rfl, h1, h2, h3, hV⟩
  · cases h0
  · have hl := h.1
    refine ⟨by rw [List.length_take]; omega, .inr ⟨g, (l.drop m).flatMap f ++ zs, rfl, by omega, ?_, all_app (all_flat hn _) h3, ?_⟩⟩
    · rw [List.length_append, flatMap_len (fun x _ => hw x), h2, List.length_drop, hl, ← Nat.add_mul]; congr 1; omega
    · rw [← List.append_assoc, ← List.flatMap_append, List.take_append_drop]; exact hV
theorem Fr.one {w : World} {g : Nat} {t : TypeId} {cs : List Value} (hV : Vr w.heap g t cs) : Fr w w [⟨g, t, cs⟩] [] (fun j => j = g) :=
  ⟨Exs.refl _ _, fun v hv => by rw [List.mem_singleton] at hv; subst hv; exact ⟨.inr rfl, hV⟩, List.pairwise_singleton _ _, fun _ h => (by cases h), fun _ _ _ h => (by cases h)⟩
end
section
variable {P : Program} {N : Fm} {Q : Exit → Act → World → Prop} {σ : Store} {w : World} {ops : Array Oper} {d : Nat} {t : TypeId} {pos : String} {af : Array Edge} {rest : List Oper}
theorem TL.storeOwC {α : Type} {f : α → List Value} {k : Nat} (hw : ∀ x, (f x).length = k) (hn : ∀ x, (f x).all noU64 = true) {x y : Operand} {ty e : TypeId} {z : Value} {b1 : Nat} [hS : USize P ty z k b1] {A : Option Addr} {n c i : Nat} {l : List α} (u : α) {vs : List Value}
    (hx : look σ x = some (.pointer (elemA A (i * k)))) (hy : look σ y = some (.agg vs.toArray)) (hvs : f u = vs) (h1 : vs.all (·.oneCell') = true) (hO : OwC k f w.heap e A n c l) (hi : i < n)
    (K : ∀ w', OwC k f w'.heap e A n c (l.set i u) → Exs (fun j => A = some ⟨j, 0, none⟩) w w' → TL P N .seq ops Q rest σ w') : TL P N .seq ops Q (⟨none, .store ty x y, t, pos, af, none⟩ :: rest) σ w := by
  subst hvs
  obtain ⟨hl, h⟩ := hO
  rcases h with ⟨_, h0, _⟩ | ⟨b, zs, rfl, hnc, hzl, hzn, hV⟩
  · omega
  have hlen : (l.flatMap f).length = l.length * k := flatMap_len fun x _ => hw x
  have hik : i * k + k ≤ l.length * k := by
    have h1 : (i + 1) * k ≤ l.length * k := Nat.mul_le_mul_right k (by omega)
    rw [Nat.add_mul, Nat.one_mul] at h1
    exact h1
  obtain ⟨ii, hii, _, hsz', _⟩ := hS.info
  have hst := run_storeCells_at P b (0 + i * k) e (f u) 0 (l.flatMap f ++ zs).toArray w hV (by simp only [List.size_toArray]; rw [List.length_append, hlen, hw]; omega) (fun v hv => List.all_eq_true.1 h1 v hv)
  simp only [Nat.add_zero, Nat.zero_add, hw] at hst
  rw [show (l.flatMap f ++ zs).take (i * k) ++ f u ++ (l.flatMap f ++ zs).drop (i * k + k) = (l.set i u).flatMap f ++ zs by
    rw [List.take_append_of_le_length (by omega), List.drop_append_of_le_length (by omega), ← flatMap_set hw u l i (by omega)]; simp] at hst
  have hV' : Vr (w.setRow b ((l.set i u).flatMap f ++ zs).toArray).heap b e ((l.set i u).flatMap f ++ zs) := by
    unfold Vr at hV ⊢
    rw [setRow_heap w b _ _ e _ hV]
  refine TL.op0 (w' := w.setRow b ((l.set i u).flatMap f ++ zs).toArray) (fun ρ hρ => ?_) (K _ ⟨by rw [List.length_set]; exact hl, .inr ⟨b, zs, rfl, hnc, hzl, hzn, hV'⟩⟩ ((upd_setRow _ _ _).exs.mono fun j _ e => by rw [e]))
  have e0 : look σ x = some (.pointer (some ⟨b, i * k, none⟩)) := by rw [hx]; simp [elemA, add_mk]
  simp [execOp, hρ x _ e0, hρ y _ hy, Instr.storeAt, Instr.sureAddr, storeVar, sizeOf, typeInfo, hii, hsz', Value.cells, hw]
  rw [hst]
  simp
theorem TL.appendOwC {α : Type} {f : α → List Value} {k : Nat} (hw : ∀ x, (f x).length = k) (hn : ∀ x, (f x).all noU64 = true) (h1 : ∀ u, (f u).all (·.oneCell') = true) {x y : Operand} {ty e : TypeId} [hT : USlice P ty e] {v0 : Value} {z : List Value} {b1 : Nat} [hS : USize P e v0 k b1] (hzv : v0.cells = z.toArray) {A : Option Addr} {n c : Nat} {l : List α} {a : Addr} {c' B : Nat} {u : α}
    (hx : look σ x = some (.slice A n c)) (hy : look σ y = some (.slice (some a) 1 c')) (hd : Nat.blt d N.n = true) (hO : OwC k f w.heap e A n c l) (hs : Sm k f w.heap B (some a) 1 c' [u]) (hzl : Nat.beq z.length k = true) (hzn : z.all noU64 = true)
    (hroom : (n + 1) * b1 ≤ 140737488355328 ∧ n + 1 ≤ 4611686018427387904)
    (K : ∀ w' A2 c2, OwC k f w'.heap e A2 (n + 1) c2 (l ++ [u]) → (A2 = A ∧ c2 = c ∧ A.isSome = true ∧ Exs (fun j => A = some ⟨j, 0, none⟩) w w' ∨ (∀ b, A2 = some ⟨b, 0, none⟩ → w.heap.size ≤ b) ∧ Ext w w') → TL P N .seq ops Q rest ((d, .slice A2 (n + 1) c2) :: σ) w') :
    TL P N .seq ops Q (⟨some d, .call { callee := .builtin .append, args := #[x, y], argTypes := #[ty, ty] }, t, pos, af, none⟩ :: rest) σ w := by
  obtain ⟨hl, h⟩ := hO
  rcases h with ⟨rfl, rfl, rfl⟩ | ⟨g, zs, rfl, hnc, hzs, hzsn, hV⟩
  · have hl0 := List.length_eq_zero_iff.1 hl
    subst hl0
    refine TL.appendNewFr (Fr.refl w) f hzv hx hy hd hs h1 hzl hzn (by simpa using hroom) (fun h => absurd h (by omega)) fun _ w' b c2 zs2 hc2 hz2 hn2 hF => K w' (some ⟨b, 0, none⟩) c2 ?_ (.inr ⟨fun q hq => ?_, hF.ext⟩)
    · exact ⟨rfl, .inr ⟨b, zs2, rfl, by omega, by simpa using hz2, hn2, by simpa using hF.var .head⟩⟩
    · cases hq; exact ((hF.vars _ (List.mem_cons_self ..)).1).resolve_right id
  · refine TL.appendAtFr (L' := [⟨g, e, (l ++ [u]).flatMap f ++ zs.drop (1 * k)⟩]) (Fr.one hV) hzv hx hy hd hs h1 hw hzl hzn hl hzs hnc (all_app (all_flat hn _) hzsn) hroom .head (fun hc w' hF => K w' _ c ?_ (.inl ⟨rfl, rfl, rfl, hF.exs.mono fun j _ e => by rw [e]⟩)) (fun hc w' b c2 zs2 hc2 hz2 hn2 hF => K w' (some ⟨b, 0, none⟩) c2 ?_ (.inr ⟨fun q hq => ?_, ?_⟩))
    · refine ⟨by simp [hl], .inr ⟨g, zs.drop (1 * k), rfl, hc, ?_, ?_, hF.var .head⟩⟩
      · rw [List.length_drop, hzs, ← Nat.sub_mul]; congr 1
      · exact List.all_eq_true.2 fun v hv => List.all_eq_true.1 hzsn v (List.mem_of_mem_drop hv)
    · exact ⟨by simp [hl], .inr ⟨b, zs2, rfl, by omega, hz2, hn2, hF.var .head⟩⟩
    · cases hq
      rcases (hF.vars _ (List.mem_cons_self ..)).1 with h | h
      · exact h
      · exact absurd h (List.rel_of_pairwise_cons hF.dist (List.mem_cons_self ..))
    · have hg : w'.heap[g]? = w.heap[g]? := (hF.var (.tail .head)).trans hV.symm
      refine ⟨hF.exs.os, hF.exs.tape, hF.exs.output, hF.exs.size, fun q hq => ?_⟩
      by_cases e : q = g
      · subst e; exact hg
      · exact hF.exs.block q hq e
end
end Go.Eng
