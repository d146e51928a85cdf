/- The engine: range over a function: code walked in a round's frame, calls of yield, the statement itself, returns behind it. The engine: maps as facts of a frame. The engine: a range over a map that the loop does not write, by frames: the entries come in whatever order. The types and functions of this translation, as the engine asks for them. The map types of this translation. The struct types of this translation. -/
import Derived.Test.YtlpheckjogphmaaGreatPz2
import Derived.RangeFuncLeaves
import Derived.RangeFuncSeq
import Derived.RangeFuncOwn
import Derived.TacticsIn
import Derived.MapKept
import Derived.Laws.StructEq
import Derived.Laws.IdiomRangeMap
import Derived.Test.YtlpheckjogphmaaGreatProg
import Derived.Test.YtlpheckjogphmaaGreatPz1
set_option linter.unusedVariables false
set_option linter.unusedSimpArgs false
namespace Go.Eng
open Go Go.RowKit
section
variable {P : Program} {N : Fm} {Q : Exit → Act → World → Prop} {σ : Store} {S : Nat → Prop} {w0 w : World} {L : List VB} {D : List DP} {l : List Oper}
theorem T.regionFt {v : VB} (hF : Fr w0 w (v :: L) D S) (id : Nat) (f : Nat) (t : Rt) (hm : P.follows .mixedOrders = true) (hB : treeB l.toArray f t = true)
    (h : ∀ w1 : World, Fr w0 w1 (v :: L) D S → TF P N l Q (fun w' => Fr w0 w' L D S) f t σ w1) : T P N (.region id l.toArray true) Q σ w :=
  T.regionF _ f t hm hB ((hF.weak (List.Sublist.cons _ (List.Sublist.refl _)) allR).exts (ext_drewN w 1)) (h _ (hF.exts (ext_drewN w 1)))
end
def wideR (R : Option Nat) : Fence := { Fence.wide with round := R }
theorem calls_in {R : Option Nat} {n : Nat} {P : Program} {f : FuncId} {args : Array Value} {w : World} {Q : Ending → World → Prop} (h : Calls P f args w Q) : CallsIn (wideR R) n P f args w Q :=
  callsIn_wide (n := n).2 h
theorem rows_in {R : Option Nat} {n : Nat} {P : Program} {row : String} {args : Array Value} {w : World} {Q : Value → World → Prop} (h : Rows P row args w Q) : RowsIn (wideR R) n P row args w Q :=
  fun c cs _ => let ⟨v, w', r, s⟩ := h c cs; ⟨v, w', r, (stepsIn_wide (P := P)).2 s⟩
theorem upon_in {R : Option Nat} {n : Nat} {P : Program} {o : Oper} {a : Act} {next next' : Act → World → Prop} {Q Q' : Exit → Act → World → Prop} {r : Result Next} (hn : ∀ a w, next a w → next' a w) (hq : ∀ c a w, Q (.panic c) a w → Q' (.panic c) a w) (hl : ∀ a w, Q .outgrown a w → Q' .outgrown a w)
    (h : o.upon P a next Q r) : o.uponIn (wideR R) n P a next' Q' r := by
  unfold Oper.upon at h
  unfold Oper.uponIn
  split at h
  · exact hn _ _ h
  · exact hn _ _ h
  · exact hn _ _ h
  · refine ⟨fun e => (by cases e), calls_in (h.mono ?_)⟩
    intro e w' he
    cases e with
    | returned v => exact hn _ _ he
    | panicked c => exact hq _ _ _ he
    | outgrown => obtain ⟨a0, w0, h0⟩ := he; exact ⟨a0, w0, hl _ _ h0⟩
  · exact ⟨fun e => (by cases e), rows_in (h.mono fun v w' he => hn _ _ he)⟩
  · exact hq _ _ _ h
  · exact h.elim
def noDefer (o : Oper) : Bool := match o.op with
  | .defer _ => false
  | _ => true
theorem wp_in {R : Option Nat} {n : Nat} {P : Program} {o : Oper} {a : Act} {w : World} {next next' : Act → World → Prop} {Q Q' : Exit → Act → World → Prop} (hd : noDefer o = true) (hn : ∀ a w, next a w → next' a w) (hq : ∀ c a w, Q (.panic c) a w → Q' (.panic c) a w) (hl : ∀ a w, Q .outgrown a w → Q' .outgrown a w)
    (h : o.wp P a w next Q) : o.wpIn (wideR R) n P a w next' Q' := by
  refine ⟨fun _ _ => trivial, ?_⟩
  rw [Oper.semAt_eq _ _ _ (fun c e => by unfold noDefer at hd; rw [e] at hd; cases hd)]
  exact upon_in hn hq hl h
def NoOut (Q : Exit → Act → World → Prop) : Prop := ∀ a w, ¬ Q .outgrown a w
theorem NoOut.lets {Q : Exit → Act → World → Prop} (h : NoOut Q) : ¬ LetsOut Q := fun ⟨a, w, hq⟩ => h a w hq
theorem list_in {R : Option Nat} {n : Nat} {P : Program} {ops : Array Oper} {Q : Exit → Act → World → Prop} (hno : NoOut Q) : ∀ (l : List Oper) (a : Act) (w : World), l.all noDefer = true → wpList P ops Q l a w → wpListIn (wideR R) n P ops Q l a w
  | [], a, w, _, h => h
  | o :: rest, a, w, hd, h => by
    simp only [List.all_cons, Bool.and_eq_true] at hd
    unfold wpListIn
    unfold wpList at h
    by_cases hw : Region.wanted o (yielded ops a.tmps) = true
    · rw [if_pos hw] at h ⊢
      rcases h with h | h
      · exact wp_in hd.1 (fun a w h => list_in hno rest a w hd.2 h) (fun _ _ _ h => h) (fun _ _ h => h) h
      · exact absurd h.2 hno.lets
    · rw [if_neg hw] at h ⊢
      exact ⟨fun _ _ => trivial, list_in hno rest _ w hd.2 h⟩
section
variable (P : Program) (R : Option Nat) (N : Fm)
def TI (c : Code) (Q : Exit → Act → World → Prop) (σ : Store) (w : World) : Prop := NoOut Q → ∀ a, Rep N σ a → c.wpIn (wideR R) 0 P Q a w
def TLI (ops : Array Oper) (Q : Exit → Act → World → Prop) (l : List Oper) (σ : Store) (w : World) : Prop := NoOut Q → ∀ a, Rep N σ a → wpListIn (wideR R) 0 P ops Q l a w
def Kc (c : Code) (Q : Exit → Act → World → Prop) (a : Act) (w : World) : Prop := NoOut Q → c.wpIn (wideR R) 0 P Q a w
def Kl (ops : Array Oper) (Q : Exit → Act → World → Prop) (l : List Oper) (a : Act) (w : World) : Prop := NoOut Q → wpListIn (wideR R) 0 P ops Q l a w
end
section
variable {P : Program} {R : Option Nat} {N : Fm} {Q : Exit → Act → World → Prop} {σ : Store} {w : World} {ops : Array Oper} {rest : List Oper}
theorem TI.is {c : Code} (h : TI P R N c Q σ w) : TI P R N c Q σ w := h
theorem TI.seq {x y : Code} (h : TI P R N x (Exit.then (Kc P R y Q) Q) σ w) : TI P R N (x.seq y) Q σ w := fun hno a ha => wpIn_seq (wpIn_mono (h hno a ha) fun e a w hq => by
  cases e with
  | normal => exact hq hno
  | _ => exact hq)
theorem TI.skip (h : G N .normal Q σ w) : TI P R N .skip Q σ w := by unfold G at h; exact fun _ a ha => wpIn_skip (h a ha)
theorem TI.exit {id : Nat} (h : G N (.exit id) Q σ w) : TI P R N (.exit id) Q σ w := by unfold G at h; exact fun _ a ha => wpIn_exit (h a ha)
theorem TI.ret (h : G N .ret Q σ w) : TI P R N .ret Q σ w := by unfold G at h; exact fun _ a ha => wpIn_ret (h a ha)
theorem TI.block {id : Nat} {c : Code} (h : TI P R N c (Exit.inBlock id Q) σ w) : TI P R N (.block id c) Q σ w := fun hno a ha => wpIn_block (h hno a ha)
theorem TI.cond_t {c : Operand} {x y : Code} (hc : look σ c = some (.bool true)) (h : TI P R N x Q σ w) : TI P R N (.cond c x y) Q σ w :=
  fun hno a ha => wpIn_cond_true (ha.agree _ _ hc) (h hno a ha)
theorem TI.cond_f {c : Operand} {x y : Code} (hc : look σ c = some (.bool false)) (h : TI P R N y Q σ w) : TI P R N (.cond c x y) Q σ w :=
  fun hno a ha => wpIn_cond_false (ha.agree _ _ hc) (h hno a ha)
theorem TI.sub {c : Code} {σ' : Store} (hs : Sub σ' σ) (h : TI P R N c Q σ' w) : TI P R N c Q σ w := fun hno a ha => h hno a (ha.sub hs)
theorem TI.region {id : Nat} {l : List Oper} (hd : l.all noDefer = true) (h : TL P N .seq l.toArray Q l σ w) : TI P R N (.region id l.toArray false) Q σ w := by
  unfold TL at h
  exact fun hno a ha => wpIn_region_lit (list_in hno _ _ _ hd (h a ha))
theorem TI.regionI {id : Nat} {l : List Oper} (h : TLI P R N l.toArray Q l σ w) : TI P R N (.region id l.toArray false) Q σ w := fun hno a ha => wpIn_region_lit (h hno a ha)
theorem TLI.is {l : List Oper} (h : TLI P R N ops Q l σ w) : TLI P R N ops Q l σ w := h
theorem YieldAt.weak {F : Fence} {m : Nat} {P : Program} {l : Nat} {args : Array Value} {W : World} {R R' : Ending → World → Prop} (h : YieldAt F m P l args W R) (hr : ∀ e w, R e w → R' e w) : YieldAt F m P l args W R' := by
  obtain ⟨fn, tmps, assign, body, hy, hR⟩ := h
  exact ⟨fn, tmps, assign, body, hy, RoundIn.mono hR hr⟩
theorem TLI.nil (h : G N .normal Q σ w) : TLI P R N ops Q [] σ w := by unfold G at h; exact fun _ a ha => h a ha
theorem TLI.step {o : Oper} (hd : noDefer o = true) (h : TL P N .seq ops (Exit.then (Kl P R ops Q rest) Q) [o] σ w) : TLI P R N ops Q (o :: rest) σ w := by
  intro hno a ha
  unfold TL at h
  have h1 := h a ha
  simp only [wpList] at h1
  unfold wpListIn
  by_cases hw : Region.wanted o (yielded ops a.tmps) = true
  · rw [if_pos hw] at h1 ⊢
    rcases h1 with h1 | h1
    · exact wp_in hd (fun a w h => h hno) (fun _ _ _ h => h) (fun _ _ h => h) h1
    · exact absurd h1.2 (NoOut.lets (Q := Exit.then (Kl P R ops Q rest) Q) hno)
  · rw [if_neg hw] at h1 ⊢
    exact ⟨fun _ _ => trivial, h1 hno⟩
theorem G.nextL (h : TLI P R N ops Q rest σ w) : G N .normal (Exit.then (Kl P R ops Q rest) Q) σ w := by unfold G; exact fun a ha hno => h hno a ha
theorem G.nextI {y : Code} (h : TI P R N y Q σ w) : G N .normal (Exit.then (Kc P R y Q) Q) σ w := by unfold G; exact fun a ha hno => h hno a ha
theorem exec_yield {ρ : Operand → Value} {l : Nat} {x : Operand} {xs : List Operand} {tys : Array TypeId} {vs : List Value} {dd : Option Tmp} {t : TypeId} {pos : String} {af : Array Edge} {gd : Option (Nat × Bool)} {r : Next} (hρ : Agree σ ρ) (hf : look σ x = some (.func (.yield l) #[] #[])) (hx : looks σ xs = some vs)
    (hy : (Instr.yield l vs.toArray).run P w = .ok r w) : (execOp ρ ⟨dd, .call { callee := .value x, args := xs.toArray, argTypes := tys }, t, pos, af, gd⟩).run P w = .ok r w := by
  have e := hρ.list xs vs hx
  have ef := hρ x _ hf
  simp [execOp, resolve, ef, Deferred.ofValue, invoke, e, hy]
theorem TLI.yield {l : Nat} {d : Nat} {x : Operand} {xs : List Operand} {tys : Array TypeId} {vs : List Value} {t : TypeId} {pos : String} {af : Array Edge} (hf : look σ x = some (.func (.yield l) #[] #[])) (hx : looks σ xs = some vs) (hd : Nat.blt d N.n = true)
    (k : YieldAt Fence.wide 0 P l vs.toArray w fun e w' => ∃ v, e = .returned v ∧ TLI P R N ops Q rest ((d, v) :: σ) w') :
    TLI P R N ops Q (⟨some d, .call { callee := .value x, args := xs.toArray, argTypes := tys }, t, pos, af, none⟩ :: rest) σ w := by
  obtain ⟨fn, tmps, assign, body, hy, hR⟩ := k
  intro hno a ha
  refine wpListIn_plain rfl fun K hK => ⟨fun _ _ => trivial, ?_⟩
  rw [Oper.semAt_eq _ _ _ (fun c e => by cases e), exec_yield ha.agree hf hx hy, Oper.uponIn_round]
  refine ⟨fun e => (by cases e), RoundIn.mono (F := wideR R) hR ?_⟩
  rintro e w' ⟨v, rfl, hk⟩
  exact hK _ _ (hk hno _ (ha.put hd v))
theorem TI.loop {α : Type} {c : Code} (st : α → Store) (I : α → World → Prop) (μ : α → Nat) (x0 : α) (hs : Sub (st x0) σ) (h0 : I x0 w)
    (round : ∀ x w, I x w → TI P R N c (Exit.then (fun a' w' => ∃ x', Rep N (st x') a' ∧ I x' w' ∧ μ x' < μ x) Q) (st x) w) : TI P R N (.loop c) Q σ w := by
  intro hno a ha b k cs hro hb hr
  have key : ∀ j x a w, μ x = j → Rep N (st x) a → I x w →
      ∃ e a' w', Q e a' w' ∧ ArrivesIn (Machine.fenced P (wideR R)) P (lone (b.atR a (.code c :: .inLoop c :: k)) cs w) b k cs e a' w' := by
    intro j
    induction j using Nat.strongRecOn with
    | _ j ih =>
      intro x a w hx hrr hI
      obtain ⟨e, a₁, w₁, hq, harr⟩ := round x w hI hno a hrr b (.inLoop c :: k) cs hro hb hr
      cases e with
      | normal =>
        obtain ⟨x', hr', hI', hlt⟩ := hq
        obtain ⟨e₂, a₂, w₂, hq₂, harr₂⟩ := ih (μ x') (hx ▸ hlt) x' a₁ w₁ rfl hr' hI'
        exact ⟨e₂, a₂, w₂, hq₂, .of_steps (StepsIn.trans harr (.one (fenced_calm (n := 0) hb hr rfl) stepR_inLoop)) harr₂⟩
      | exit id => exact ⟨_, a₁, w₁, hq, .pass (x := .inLoop c) rfl (fun _ _ => .inl (by simp)) harr⟩
      | goto l => exact ⟨_, a₁, w₁, hq, .pass (x := .inLoop c) rfl (fun _ _ => .inl (by simp)) harr⟩
      | ret => exact ⟨_, a₁, w₁, hq, .pass (x := .inLoop c) rfl (fun _ _ => .inl (by simp)) harr⟩
      | panic ch => exact ⟨_, a₁, w₁, hq, .pass (x := .inLoop c) rfl (fun _ _ => .inl (by simp)) harr⟩
      | outgrown => exact ⟨_, a₁, w₁, hq, .pass (x := .inLoop c) rfl (fun _ _ => .inl (by simp)) harr⟩
  obtain ⟨e, a', w', hq, harr⟩ := key _ x0 a w rfl (ha.sub hs) h0
  exact ⟨e, a', w', hq, .of_steps (.one (fenced_calm (n := 0) hb hr rfl) stepR_loop) harr⟩
end
/-! ### Worlds behind the loop's book-keeping -/
def keepsObj : Obj → Bool
  | .cells .. => true
  | .map .. => true
  | .mapIter .. => true
  | _ => false
theorem keepsObj_map {o : Obj} (h : mapO o = true) : keepsObj o = true := by cases o <;> first | rfl | cases h
structure Cx (B : Nat) (w w' : World) : Prop where
  os : w'.os = w.os
  tape : w'.tape = w.tape
  output : w'.output = w.output
  size : w.heap.size ≤ w'.heap.size
  low : ∀ k, k < B → k < w.heap.size → w'.heap[k]? = w.heap[k]?
  cells : ∀ (k : Nat) (o : Obj), w.heap[k]? = some o → keepsObj o = true → w'.heap[k]? = w.heap[k]?
theorem Cx.refl (B : Nat) (w : World) : Cx B w w := ⟨rfl, rfl, rfl, Nat.le_refl _, fun _ _ _ => rfl, fun _ _ _ _ => rfl⟩
theorem Cx.of {B : Nat} {w w' : World} (h : Ext w w') : Cx B w w' := ⟨h.os, h.tape, h.output, h.size, fun k _ hk => h.block k hk, fun k o hk _ => h.block k (Array.getElem?_eq_some_iff.1 hk).1⟩
theorem Cx.trans {B : Nat} {a b c : World} (h : Cx B a b) (k : Cx B b c) : Cx B a c :=
  ⟨k.os.trans h.os, k.tape.trans h.tape, k.output.trans h.output, Nat.le_trans h.size k.size, fun i hi hl => (k.low i hi (Nat.lt_of_lt_of_le hl h.size)).trans (h.low i hi hl),
    fun i o hi ho => by have h1 := h.cells i o hi ho; exact (k.cells i o (h1.trans hi) ho).trans h1⟩
theorem Cx.put {B : Nat} {w : World} {l : Nat} {o : Obj} (o' : Obj) (hl : B ≤ l) (h : w.heap[l]? = some o) (ho : keepsObj o = false) : Cx B w (w.putObj l o') :=
  ⟨rfl, rfl, rfl, Nat.le_of_eq World.putObj_size.symm, fun k hk _ => World.putObj_heap_other (by omega), fun k x hk hx => World.putObj_heap_other (fun e => by subst e; rw [h] at hk; cases hk; rw [ho] at hx; cases hx)⟩
theorem Cx.mono {B B' : Nat} {w w' : World} (h : Cx B w w') (hB : B' ≤ B) : Cx B' w w' := ⟨h.os, h.tape, h.output, h.size, fun k hk => h.low k (Nat.lt_of_lt_of_le hk hB), h.cells⟩
theorem Cx.ext {w0 w w' : World} {B : Nat} (h : Ext w0 w) (k : Cx B w w') (hB : w0.heap.size ≤ B) : Ext w0 w' :=
  ⟨k.os.trans h.os, k.tape.trans h.tape, k.output.trans h.output, Nat.le_trans h.size k.size, fun i hi => (k.low i (Nat.lt_of_lt_of_le hi hB) (Nat.lt_of_lt_of_le hi h.size)).trans (h.block i hi)⟩
theorem Cx.de {F : Nat → Prop} {B : Nat} {w w' : World} (k : Cx B w w') : DE F w.heap w'.heap := ⟨k.size, fun i cs t x hi _ => k.cells i _ hi rfl, fun i o hi ho _ => k.cells i _ hi (keepsObj_map ho)⟩
section
variable {S : Nat → Prop} {w0 w w' W : World} {L : List VB} {D : List DP} {B : Nat}
theorem Fr.cx (h : Fr w0 w L D S) (k : Cx B w w') (hB : w0.heap.size ≤ B) : Fr w0 w' L D S :=
  ⟨⟨k.os.trans h.exs.os, k.tape.trans h.exs.tape, k.output.trans h.exs.output, Nat.le_trans h.exs.size k.size, fun i hi hs => (k.low i (Nat.lt_of_lt_of_le hi hB) (Nat.lt_of_lt_of_le hi h.exs.size)).trans (h.exs.block i hi hs)⟩,
    fun v hv => ⟨(h.vars v hv).1, by have h1 := (h.vars v hv).2; unfold Vr at h1 ⊢; exact (k.cells _ _ h1 rfl).trans h1⟩, h.dist, fun d hd => d.st _ _ k.de (h.data d hd), h.apart⟩
structure Opn (w0 W : World) (S : Nat → Prop) : Prop where
  ext : Ext w0 W
  lo : ∀ k, S k → w0.heap.size ≤ k
  cells : ∀ k, S k → ∃ o : Obj, W.heap[k]? = some o ∧ o.isCells = true
theorem Fr.open (h : Fr w0 W L D) : ∃ S, Opn w0 W S ∧ Fr W W L D S :=
  ⟨fun k => ∃ v ∈ L, v.b = k, ⟨h.ext, fun k ⟨v, hv, e⟩ => by rcases (h.vars v hv).1 with h1 | h1; exact e ▸ h1; exact h1.elim, fun k ⟨v, hv, e⟩ => ⟨_, e ▸ (h.vars v hv).2, rfl⟩⟩,
    Exs.refl _ _, fun v hv => ⟨.inr ⟨v, hv, rfl⟩, (h.vars v hv).2⟩, h.dist, h.data, h.apart⟩
theorem Fr.outer (hO : Opn w0 W S) (h : Fr W w L D S) : Ext w0 w :=
  ⟨h.exs.os.trans hO.ext.os, h.exs.tape.trans hO.ext.tape, h.exs.output.trans hO.ext.output, Nat.le_trans hO.ext.size h.exs.size, fun k hk => (h.exs.block k (Nat.lt_of_lt_of_le hk hO.ext.size) (fun hs => by have := hO.lo k hs; omega)).trans (hO.ext.block k hk)⟩
theorem Fr.shut (hO : Opn w0 W S) (h : Fr W w L D S) : Fr w0 w L D :=
  ⟨.of (h.outer hO), fun v hv => ⟨.inl (by rcases (h.vars v hv).1 with h1 | h1; exact Nat.le_trans hO.ext.size h1; exact hO.lo _ h1), (h.vars v hv).2⟩, h.dist, h.data, h.apart⟩
theorem Fr.others (hO : Opn w0 W S) (h : Fr W w L D S) : KeepsOthers W w :=
  ⟨h.exs.size, fun k o hk ho => (h.exs.block k (Array.getElem?_eq_some_iff.1 hk).1 (fun hs => by obtain ⟨o', h1, h2⟩ := hO.cells k hs; rw [hk] at h1; cases h1; rw [ho] at h2; cases h2)).trans hk⟩
end
/-! ### The statement -/
def putAll : List Nat → List Value → Store → Store
  | p :: ps, v :: vs, σ => putAll ps vs ((p, v) :: σ)
  | _, _, σ => σ
theorem Rep.fold {N : Fm} : ∀ (ps : List Nat) (vs : List Value) {σ : Store} {a : Act}, Rep N σ a → ps.all (fun p => Nat.blt p N.n) = true → Rep N (putAll ps vs σ) { a with tmps := (ps.zip vs).foldl (fun t (x : Nat × Value) => t.setIfInBounds x.1 x.2) a.tmps }
  | [], vs, σ, a, h, _ => by simpa [putAll] using h
  | p :: ps, [], σ, a, h, _ => by simpa [putAll] using h
  | p :: ps, v :: vs, σ, a, h, hp => by
    simp only [List.all_cons, Bool.and_eq_true] at hp
    have := Rep.fold ps vs (h.put hp.1 v) hp.2
    simpa [putAll, Act.put] using this
def Iter (P : Program) (gf : FuncId) (cap : List Value) {β : Type} (args : β → List Value) (m : Nat) (It : World → Prop) (Fx : Nat → β → World → World → Prop) : Prop :=
  ∀ (l : Nat) (J : Nat → World → Prop) (Jx : World → Prop) (W : World), (∀ i W W', J i W → Ext W W' → J i W') → (∀ W W', Jx W → Ext W W' → Jx W') → It W → J 0 W →
    (∀ i x Wb W1, i < m → J i Wb → It Wb → Ext Wb W1 → Fx i x Wb W1 → YieldAt Fence.wide 0 P l (args x).toArray W1 fun e W' => (e = .returned (.bool true) ∧ J (i + 1) W' ∧ It W') ∨ (e = .returned (.bool false) ∧ Jx W')) →
    Calls P gf (Value.func (.yield l) #[] #[] :: cap).toArray W fun e W' => (∃ v, e = .returned v) ∧ ((J m W' ∧ It W') ∨ Jx W')
def RPost (I : World → Prop) (Ix : Code → World → Prop) (W : World) : Exit → Act → World → Prop
  | .normal, _, w' => KeepsOthers W w' ∧ I w'
  | .ret, _, w' => KeepsOthers W w' ∧ Ix .ret w'
  | .exit id, _, w' => KeepsOthers W w' ∧ Ix (.exit id) w'
  | _, _, _ => False
def Begun (P : Program) (B l : Nat) (body : Code) (I : World → Prop) (Ix : Code → World → Prop) (W : World) (a₁ : Act) (w₁ : World) : Prop :=
  KeepsOthers W w₁ ∧ ∀ w₂, Cx B w₁ w₂ → (∃ r, w₂.heap[l]? = some (.loop r)) → body.wpIn (wideR (some l)) 0 P (RPost I Ix w₂) a₁ w₂
def markOf (D : Nat) : Deferred := { target := .collected D, args := #[] }
theorem TI.rangeFunc {P : Program} {n : Nat} {Q : Exit → Act → World → Prop} {σ : Store} {w : World} {g : Operand} {ps : List Nat} {assign body : Code} {gf : FuncId} {cap : List Value} {β : Type} {args : β → List Value} {m : Nat} {It : World → Prop} {Fx : Nat → β → World → World → Prop}
    (hIt : Iter P gf cap args m It Fx) (hg : look σ g = some (.func (.func gf) #[] cap.toArray)) (hfn : IsFn P gf) (hps : ∀ x, (args x).length = ps.length) (hpn : ps.all (fun p => Nat.blt p n) = true)
    (it0 : It w) (hItc : ∀ W W', It W → Cx w.heap.size W W' → It W')
    (I : Nat → World → Prop) (Ix : Code → World → Prop) (hI : ∀ i W W', I i W → Cx w.heap.size W W' → I i W') (hIx : ∀ c W W', Ix c W → Cx w.heap.size W W' → Ix c W') (h0 : I 0 w)
    (hround : ∀ l i x Wb W, i < m → w.heap.size + 1 ≤ l → (∃ r, W.heap[l]? = some (.loop r)) → I i Wb → It Wb → Ext Wb W → Fx i x Wb W → TI P (some l) ⟨n, []⟩ assign (Exit.then (Begun P w.heap.size l body (fun w' => I (i + 1) w' ∧ It w') Ix W) (fun _ _ _ => False)) (putAll ps (args x) σ) W)
    (hdone : ∀ D w', w.heap.size ≤ D → w'.heap[D]? = some (.deferred (some [])) → I m w' → It w' → G ⟨n, [markOf D]⟩ .normal Q σ w')
    (hstop : ∀ D c w', w.heap.size ≤ D → w'.heap[D]? = some (.deferred (some [])) → Ix c w' → TI P none ⟨n, [markOf D]⟩ c Q σ w') :
    TI P none ⟨n, []⟩ (.rangeFunc g ps.toArray assign body) Q σ w := by
  intro hno a ha
  refine wpIn_rangeFunc (F := wideR none) (n := 0) ?_
  intro fn _
  have hnd : a.defers = [] := ha.nodef
  obtain ⟨rec, hrec⟩ : ∃ rec : LoopState → Option Code → Loop, rec = fun st pe => { state := st, pending := pe, fn, tmps := a.tmps, params := ps.toArray, assign, body, defers := w.heap.size } := ⟨_, rfl⟩
  obtain ⟨W1, hW1⟩ : ∃ W1, (w.alloc (.deferred (some []))).alloc (.loop (rec .ready none)) = W1 := ⟨_, rfl⟩
  have hE1 : Ext w W1 := by rw [← hW1]; exact Ext.trans (ext_alloc _ _) (ext_alloc _ _)
  have hL1 : W1.heap[w.heap.size + 1]? = some (.loop (rec .ready none)) := by
    rw [← hW1]; have := World.alloc_heap_new (w.alloc (.deferred (some []))) (.loop (rec .ready none)); rwa [World.size_alloc] at this
  have hK1 : W1.heap[w.heap.size]? = some (.deferred (some [])) := by
    rw [← hW1]; exact (Below.heap_alloc _ _ _ (by simp)).trans (World.alloc_heap_new w _)
  have ef := ha.agree _ _ hg
  refine ⟨w.heap.size + 1, [markOf w.heap.size], W1, { target := .fn (.func gf) cap.toArray, args := #[.func (.yield (w.heap.size + 1)) #[] #[]] }, W1, gf,
    (Value.func (.yield (w.heap.size + 1)) #[] #[] :: cap).toArray, W1, ?_, ?_, fun _ _ => trivial, ?_, fun e => (by cases e), ?_⟩
  · rw [← hW1, hrec]; exact run_enterLoop_outer _ _ _ _ _
  · simp only [resolve, ef]
    simp [go_sem]
  · simp [invoke, run_callFunc_enter hfn]
  · have recE : ∀ {W W' : World} {o : Obj} {k : Nat}, W.heap[k]? = some o → Ext W W' → W'.heap[k]? = some o := fun h hE => (hE.block _ (Array.getElem?_eq_some_iff.1 h).1).trans h
    refine calls_in ((hIt (w.heap.size + 1) (fun i W => I i W ∧ W.heap[w.heap.size + 1]? = some (.loop (rec .ready none)) ∧ W.heap[w.heap.size]? = some (.deferred (some [])))
      (fun W => ∃ c, Ix c W ∧ W.heap[w.heap.size + 1]? = some (.loop (rec .done (some c))) ∧ W.heap[w.heap.size]? = some (.deferred (some []))) W1
      (fun i W W' h hE => ⟨hI i W W' h.1 (.of hE), recE h.2.1 hE, recE h.2.2 hE⟩) (fun W W' ⟨c, h⟩ hE => ⟨c, hIx c W W' h.1 (.of hE), recE h.2.1 hE, recE h.2.2 hE⟩)
      (hItc _ _ it0 (.of hE1)) ⟨hI _ _ _ h0 (.of hE1), hL1, hK1⟩ ?_).mono ?_)
    · rintro i x Wb W hi ⟨hi0, hl, hk⟩ hit hEb hfx
      replace hl := recE hl hEb
      replace hk := recE hk hEb
      have hlt : w.heap.size + 1 < W.heap.size := (Array.getElem?_eq_some_iff.1 hl).1
      have hy := run_yield (P := P) (args := (args x).toArray) hl (by rw [hrec]; simpa using hps x)
      rw [hrec] at hy
      refine ⟨fn, _, assign, body, hy, roundIn_of_wpIn (F := Fence.wide) (n := 0) trivial ?_⟩
      have hrep : Rep ⟨n, []⟩ (putAll ps (args x) σ) { tmps := (ps.toArray.zip (args x).toArray).foldl (fun t (x : Nat × Value) => t.setIfInBounds x.1 x.2) a.tmps, defers := [] } := by
        have := Rep.fold ps (args x) ha hpn
        rw [hnd] at this
        simpa [List.zip_toArray] using this
      refine wpIn_mono (hround (w.heap.size + 1) i x Wb W hi (Nat.le_refl _) ⟨_, hl⟩ hi0 hit hEb hfx (fun _ _ h => h) _ hrep) ?_
      rintro e a₁ w₁ hq
      cases e with
      | normal =>
        obtain ⟨hk1, hbody⟩ := hq
        have hl1 := hk1.same _ _ hl rfl
        have hd1 := hk1.same _ _ hk rfl
        have hlt1 := (Array.getElem?_eq_some_iff.1 hl1).1
        refine ⟨_, run_beginRound hl1 (by rw [hrec]), ?_⟩
        have hc2 : Cx w.heap.size w₁ (w₁.putObj (w.heap.size + 1) (.loop { rec .ready none with state := .busy })) := .put _ (by omega) hl1 rfl
        have hl2 : (w₁.putObj (w.heap.size + 1) (.loop { rec .ready none with state := .busy })).heap[w.heap.size + 1]? = some (.loop { rec .ready none with state := .busy }) := World.putObj_heap_same hlt1
        have hk2 : (w₁.putObj (w.heap.size + 1) (.loop { rec .ready none with state := .busy })).heap[w.heap.size]? = some (.deferred (some [])) := (World.putObj_heap_other (by omega)).trans hd1
        refine wpIn_mono (hbody _ hc2 ⟨_, hl2⟩) ?_
        have fin : ∀ (jump : Option Code) (W3 : World), KeepsOthers (w₁.putObj (w.heap.size + 1) (.loop { rec .ready none with state := .busy })) W3 →
            ∃ W4, (Instr.endRound (w.heap.size + 1) jump).run P W3 = .ok (.bool jump.isNone) W4 ∧ Cx w.heap.size W3 W4 ∧
            W4.heap[w.heap.size + 1]? = some (.loop (rec (if jump.isNone then .ready else .done) jump)) ∧ W4.heap[w.heap.size]? = some (.deferred (some [])) := fun jump W3 hk3 => by
          have hl3 := hk3.same _ _ hl2 rfl
          have := run_endRound (P := P) jump hl3
          refine ⟨_, this, .put _ (by omega) hl3 rfl, ?_, (World.putObj_heap_other (by omega)).trans (hk3.same _ _ hk2 rfl)⟩
          rw [World.putObj_heap_same (Array.getElem?_eq_some_iff.1 hl3).1, hrec]
        rintro e a3 W3 hp
        cases e with
        | normal =>
          obtain ⟨W4, hr, hc4, hl4, hk4⟩ := fin none W3 hp.1
          exact ⟨_, _, hr, .inl ⟨rfl, ⟨hI _ _ _ hp.2.1 hc4, hl4, hk4⟩, hItc _ _ hp.2.2 hc4⟩⟩
        | ret =>
          obtain ⟨W4, hr, hc4, hl4, hk4⟩ := fin (some .ret) W3 hp.1
          exact ⟨_, _, hr, .inr ⟨rfl, .ret, hIx _ _ _ hp.2 hc4, hl4, hk4⟩⟩
        | exit id =>
          obtain ⟨W4, hr, hc4, hl4, hk4⟩ := fin (some (.exit id)) W3 hp.1
          exact ⟨_, _, hr, .inr ⟨rfl, .exit id, hIx _ _ _ hp.2 hc4, hl4, hk4⟩⟩
        | goto t => exact hp.elim
        | panic ch => exact hp.elim
        | outgrown => exact hp.elim
      | _ => exact hq.elim
    · rintro e W2 ⟨⟨v, rfl⟩, (⟨⟨hi, hl, hk⟩, hit⟩ | ⟨c, hi, hl, hk⟩)⟩
      · have hc : Cx w.heap.size W2 (W2.putObj (w.heap.size + 1) (.loop { rec .ready none with state := .exhausted })) := .put _ (by omega) hl rfl
        have hq := hdone w.heap.size _ (Nat.le_refl _) ((World.putObj_heap_other (by omega)).trans hk) (hI _ _ _ hi hc) (hItc _ _ hit hc)
        unfold G at hq
        refine ⟨none, _, (run_endLoop (P := P) hl (by rw [hrec]; simp)).trans (congrArg (fun x => Result.ok x _) (show (rec .ready none).pending = none by rw [hrec])), ?_⟩
        exact hq _ ⟨ha.size, by simp [hnd], ha.get⟩
      · have hc : Cx w.heap.size W2 (W2.putObj (w.heap.size + 1) (.loop { rec .done (some c) with state := .exhausted })) := .put _ (by omega) hl rfl
        refine ⟨some c, _, (run_endLoop (P := P) hl (by rw [hrec]; simp)).trans (congrArg (fun x => Result.ok x _) (show (rec .done (some c)).pending = some c by rw [hrec])), ?_⟩
        exact hstop w.heap.size c _ (Nat.le_refl _) ((World.putObj_heap_other (by omega)).trans hk) (hIx _ _ _ hi hc) hno _ ⟨ha.size, by simp [hnd], ha.get⟩
/-! ### Functions that hold such a statement, and iterators -/
section
variable {P : Program} {n : Nat} {σ : Store} {w : World} {fn : Func} {R : Ending → World → Prop}
theorem enterM {f : FuncId} {fn : Func} {c : Code} {vs : List Value} {R : Ending → World → Prop} (hf : P.funcs[f]? = some fn) (hb : fn.body = some c) {n : Nat} (hn : fn.ntmps = n) (hl : Nat.ble vs.length n = true) (hR : ∀ w', ¬ R .outgrown w')
    (h : TI P none ⟨n, []⟩ c (bodyPostM Fence.wide 0 P fn R) (argStore 0 vs) w) : Cl P f vs.toArray w R := by
  refine Cl.of (callsIn_wide (n := 0) |>.1 (callsIn_of_wp_marks hf hb trivial (h (fun _ w' h => hR w' h) _ ⟨?_, rfl, fun i v hv => ?_⟩)))
  · have := Nat.le_of_ble_eq_true hl
    simp [hn]; omega
  · obtain ⟨_, h2⟩ := look_argStore vs 0 i v hv
    rw [Nat.sub_zero] at h2
    have hi := (List.getElem?_eq_some_iff.1 h2).1
    simp only [Array.getD_eq_getD_getElem?]
    rw [Array.getElem?_append_left (by simpa using hi)]
    simp [h2]
theorem leavesM {tmps : Array Value} {v : Value} (hr : (results fn tmps).run P w = .ok v w) (h : R (.returned v) w) : LeavesInM Fence.wide 0 P fn tmps R [] .returning w := ⟨v, hr, h⟩
theorem leavesM_mark {tmps : Array Value} {v : Value} {D : Nat} (hD : w.heap[D]? = some (.deferred (some []))) (hr : (results fn tmps).run P (w.putObj D (.deferred none)) = .ok v (w.putObj D (.deferred none))) (h : R (.returned v) (w.putObj D (.deferred none))) :
    LeavesInM Fence.wide 0 P fn tmps R [markOf D] .returning w := ⟨by simp, .inl ⟨_, _, rfl, run_takeDeferred hD, leavesM hr h⟩⟩
theorem G.retM0 (hr : fn.results = #[]) (h : R (.returned (.tuple #[])) w) : G ⟨n, []⟩ .ret (bodyPostM Fence.wide 0 P fn R) σ w := by
  unfold G
  intro a ha
  have hd := ha.nodef
  simp only [bodyPostM, hd]
  exact leavesM (results_none hr _ _ _) h
theorem G.endM0 (hr : fn.results = #[]) (h : R (.returned (.tuple #[])) w) : G ⟨n, []⟩ .normal (bodyPostM Fence.wide 0 P fn R) σ w := by
  unfold G
  intro a ha
  have hd := ha.nodef
  simp only [bodyPostM, hd]
  exact leavesM (results_none hr _ _ _) h
theorem G.retK2 {r s D : Nat} {v u : Value} (hr : fn.results = #[.tmp r, .tmp s]) (hv : look1 σ r = some v) (hu : look1 σ s = some u) (hD : w.heap[D]? = some (.deferred (some []))) (h : R (.returned (.tuple #[v, u])) (w.putObj D (.deferred none))) : G ⟨n, [markOf D]⟩ .ret (bodyPostM Fence.wide 0 P fn R) σ w := by
  unfold G
  intro a ha
  have hd := ha.nodef
  simp only [bodyPostM, hd]
  exact leavesM_mark hD (results_tmp2 hr _ _ _) (by rw [ha.get r v hv, ha.get s u hu]; exact h)
theorem Cx.shut {B D : Nat} {w : World} (hB : B ≤ D) (hD : w.heap[D]? = some (.deferred (some []))) : Cx B w (w.putObj D (.deferred none)) := .put _ hB hD rfl
end
attribute [irreducible] TI TLI
end Go.Eng
set_option linter.unusedSectionVars false
namespace Go.Eng
open Go Go.RowKit
def dpMap (b : Nat) (es : Array MapEntry) (c : Nat) : DP := ⟨fun H => H[b]? = some (.map es c), fun k => k = b,
  fun H k h e => by subst e; exact (Array.getElem?_eq_some_iff.1 h).1, fun H H' hd h => (hd.maps b _ h rfl rfl).trans h⟩
section
variable {P : Program} {N : Fm} {ops : Array Oper} {Q : Exit → Act → World → Prop} {rest : List Oper} {σ : Store} {d : Tmp} {t : TypeId} {pos : String} {af : Array Edge} {S : Nat → Prop} {w0 w w' : World} {L : List VB} {D : List DP}
theorem Fr.map (h : Fr w0 w L D S) {b c : Nat} {es : Array MapEntry} (hm : dpMap b es c ∈ D) : w.heap[b]? = some (.map es c) := h.data _ hm
theorem Fr.mapUpd {b c c' : Nat} {es es' : Array MapEntry} (hF : Fr w0 w L (dpMap b es c :: D) S) (hb : w0.heap.size ≤ b ∨ S b) (hfree : ∀ x ∈ D, ¬ x.fp b) : Fr w0 (w.putObj b (.map es' c')) L (dpMap b es' c' :: D) S := by
  have hm := hF.map (b := b) (es := es) (c := c) (List.mem_cons_self ..)
  have hlt := (Array.getElem?_eq_some_iff.1 hm).1
  have hne : ∀ v ∈ L, v.b ≠ b := fun v hv e => by
    have h1 := (hF.vars v hv).2
    unfold Vr at h1
    rw [e, hm] at h1
    cases h1
  have hother : ∀ k, k ≠ b → (w.putObj b (.map es' c')).heap[k]? = w.heap[k]? := fun k hk => World.putObj_heap_other hk
  have hsize : (w.putObj b (.map es' c')).heap.size = w.heap.size := World.putObj_size
  refine ⟨⟨hF.exs.os, hF.exs.tape, hF.exs.output, by rw [hsize]; exact hF.exs.size, fun k hk hs => ?_⟩, fun v hv => ⟨(hF.vars v hv).1, ?_⟩, hF.dist, fun x hx => ?_, fun v hv x hx => ?_⟩
  · rw [hother k (fun e => by subst e; exact hb.elim (fun h => absurd h (Nat.not_le_of_gt hk)) hs)]
    exact hF.exs.block k hk hs
  · have h1 := (hF.vars v hv).2
    unfold Vr at h1 ⊢
    rw [hother _ (hne v hv)]; exact h1
  · rcases List.mem_cons.1 hx with rfl | hx
    · unfold dpMap; exact World.putObj_heap_same hlt
    · refine x.st _ _ ⟨Nat.le_of_eq hsize.symm, fun k cs t y hk _ => hother k fun e => ?_, fun k o hk _ hf => hother k fun e => hfree x hx (e ▸ hf)⟩ (hF.data x (List.mem_cons_of_mem _ hx))
      rw [e, hm] at hk; cases hk
  · rcases List.mem_cons.1 hx with rfl | hx
    · unfold dpMap; exact hne v hv
    · exact hF.apart v hv x (List.mem_cons_of_mem _ hx)
end
attribute [irreducible] dpMap
/-! ### Maps by their contents: a list of keys and values, in the order of their entries -/
class UMap (P : Program) (t : TypeId) (k e : outParam TypeId) : Prop where
  out : P.underlying t = some (.map k e)
class UKey (P : Program) (k : TypeId) (K : outParam Type) (f : outParam (K → Value)) : Prop where
  inj : ∀ x y, f x = f y → x = y
  chk : ∀ b x w, (Instr.checkKey b 10000 k (f x)).run P w = .ok () w
  same : ∀ x, Instr.sameBits 10000 (f x) (f x) = true
  find : ∀ x (es : List MapEntry) (ks : List K) w, es.map (·.key) = ks.map f →
    ((Instr.findKey k (f x) es).run P w = .ok none w ∧ x ∉ ks) ∨ ∃ (i : Nat) (e : MapEntry), (Instr.findKey k (f x) es).run P w = .ok (some (i, e.val)) w ∧ es[i]? = some e ∧ ks[i]? = some x
def spot (x : Int × Int) : Value := .agg #[.int .i64 x.1, .int .i64 x.2]
theorem spot_inj (x y : Int × Int) (h : spot x = spot y) : x = y := by
  obtain ⟨a, b⟩ := x
  obtain ⟨c, d⟩ := y
  simp [spot] at h
  rw [h.1, h.2]
class USpot (P : Program) (k : TypeId) : Prop where
  out : ∃ f g : Field, P.underlying k = some (.struct #[f, g]) ∧ f.name ≠ "_" ∧ g.name ≠ "_" ∧ f.offset = 0 ∧ g.offset = 1 ∧ P.underlying f.type = some (.int .i64) ∧ P.underlying g.type = some (.int .i64) ∧ P.stoodInHeld k = false
theorem run_isAgg_int {P : Program} {t : TypeId} (h : P.underlying t = some (.int .i64)) (w : World) : (isAgg t).run P w = .ok false w := run_isAgg_one ⟨⟨_, h, rfl⟩⟩ w
theorem run_part0 {P : Program} {t : TypeId} (h : P.underlying t = some (.int .i64)) (a b : Value) (w : World) : (part t #[a, b] 0).run P w = .ok a w := by
  simp [part, run_isAgg_int h, Result.andThen]
theorem run_part1 {P : Program} {t : TypeId} (h : P.underlying t = some (.int .i64)) (a b : Value) (w : World) : (part t #[a, b] 1).run P w = .ok b w := by
  simp [part, run_isAgg_int h, Result.andThen]
theorem run_equal_spot {P : Program} {k : TypeId} [h : USpot P k] (x y : Int × Int) (w : World) : (Op.equal k (spot x) (spot y)).run P w = .ok (decide (x = y)) w := by
  obtain ⟨f, g, hu, hf, hg, of, og, uf, ug, hs⟩ := h.out
  have hfs : P.fieldsOf k = #[f, g] := by unfold Program.fieldsOf; rw [hu]
  have h1 := run_equalIn_struct w 9999 k #[.int .i64 x.1, .int .i64 x.2] #[.int .i64 y.1, .int .i64 y.2] (by rw [hfs]; exact hu) hs
  rw [hfs] at h1
  have h2 : (Op.equal k (spot x) (spot y)).run P w = (Op.equalIn (9999 + 1) k (spot x) (spot y)).run P w := rfl
  rw [h2]
  unfold spot
  rw [h1]
  have e1 : (Op.equalIn 9999 f.type (.int .i64 x.1) (.int .i64 y.1)).run P w = .ok (x.1 == y.1) w := run_equalIn_int (P := P) w 9998 f.type .i64 .i64 x.1 y.1 uf
  have e2 : (Op.equalIn 9999 g.type (.int .i64 x.2) (.int .i64 y.2)).run P w = .ok (x.2 == y.2) w := run_equalIn_int (P := P) w 9998 g.type .i64 .i64 x.2 y.2 ug
  obtain ⟨a, b⟩ := x
  obtain ⟨c, d⟩ := y
  simp only at e1 e2
  simp only [Op.eqFields, hf, hg, of, og, Sem.run_bind, run_part0 uf, run_part1 ug, Result.andThen_ok, e1, ne_eq, not_false_eq_true, if_true]
  by_cases ha : a = c
  · subst ha
    by_cases hb : b = d
    · subst hb
      simp [e2, run_part1 ug, Result.andThen]
    · have : (b == d) = false := by simpa using hb
      simp [e2, run_part1 ug, Result.andThen, this, hb]
  · have : (a == c) = false := by simpa using ha
    simp [Result.andThen, this, ha]
theorem run_findAsking_spot {P : Program} {k : TypeId} [h : USpot P k] (x : Int × Int) (w : World) : ∀ (es : List MapEntry) (ks : List (Int × Int)) (n : Nat), es.map (·.key) = ks.map spot →
    ((Instr.findAsking k (spot x) es n).run P w = .ok none w ∧ x ∉ ks) ∨ ∃ (i : Nat) (e : MapEntry), (Instr.findAsking k (spot x) es n).run P w = .ok (some (n + i, e.val)) w ∧ es[i]? = some e ∧ ks[i]? = some x
  | [], [], n, _ => .inl ⟨rfl, by simp⟩
  | [], _ :: _, _, h => by simp at h
  | _ :: _, [], _, h => by simp at h
  | e :: es, y :: ks, n, h => by
    simp only [List.map_cons, List.cons.injEq] at h
    by_cases hx : x = y
    · subst hx
      refine .inr ⟨0, e, ?_, rfl, rfl⟩
      simp [Instr.findAsking, h.1, run_equal_spot, Result.andThen]
    · have hq : (Instr.findAsking k (spot x) (e :: es) n).run P w = (Instr.findAsking k (spot x) es (n + 1)).run P w := by
        simp [Instr.findAsking, h.1, run_equal_spot, Result.andThen, hx]
      rw [hq]
      rcases run_findAsking_spot (P := P) (k := k) x w es ks (n + 1) h.2 with ⟨h1, h2⟩ | ⟨i, e', h1, h2, h3⟩
      · exact .inl ⟨h1, by simp [hx, h2]⟩
      · exact .inr ⟨i + 1, e', by rw [h1, show n + 1 + i = n + (i + 1) by omega], by simpa using h2, by simpa using h3⟩
theorem findNow_spot (fs : Array Field) (x : Int × Int) (e : MapEntry) (es : List MapEntry) : Instr.findNow (.struct fs) (spot x) (e :: es) 0 = none := by
  have : Instr.sameNow (.struct fs) (spot x) e.key = none := by unfold spot Instr.sameNow; cases e.key <;> rfl
  unfold Instr.findNow
  rw [this]
instance {P : Program} {k : TypeId} [h : USpot P k] : UKey P k (Int × Int) spot where
  inj := spot_inj
  chk b x w := by
    obtain ⟨f, g, hu, hf, hg, of, og, uf, ug, hs⟩ := h.out
    have hk : ∀ (t : TypeId) (z : Int), P.underlying t = some (.int .i64) → (Instr.checkKey b 9999 t (.int .i64 z)).run P w = .ok () w := fun t z ht => MapKept.run_checkKey (k := .int .i64 z) ht (show MapKept.IsKey (.int .i64) (.int .i64 z) from rfl) b 9998
    show (Instr.checkKey b (9999 + 1) k (spot x)).run P w = _
    rw [Instr.checkKey]
    simp only [Sem.run_bind, run_underlying hu, Result.andThen_ok, spot]
    rw [← Array.forIn_toList]
    simp only [List.forIn_cons, List.forIn_nil, hf, hg, of, og, Sem.run_bind, run_part0 uf, run_part1 ug, Result.andThen_ok, ne_eq, not_false_eq_true, if_true, hk _ _ uf, hk _ _ ug, Sem.run_pure]
  same x := by
    show Instr.sameBits (9999 + 1) (spot x) (spot x) = true
    simp [spot, Instr.sameBits]
  find x es ks w hks := by
    obtain ⟨f, g, hu, hf, hg, of, og, uf, ug, hs⟩ := h.out
    unfold Instr.findKey
    simp only [Sem.run_bind, run_underlying hu, Result.andThen_ok]
    cases es with
    | nil =>
      cases ks with
      | nil => exact .inl ⟨rfl, by simp⟩
      | cons _ _ => simp at hks
    | cons e es =>
      rw [findNow_spot]
      have := run_findAsking_spot (P := P) (k := k) x w (e :: es) ks 0 hks
      simpa using this
def intk (x : Int) : Value := .int .i64 x
instance {P : Program} {k : TypeId} [h : UInt P k .i64] : UKey P k Int intk where
  inj x y h := by simpa [intk] using h
  chk b x w := MapKept.run_checkKey (k := intk x) h.out (show MapKept.IsKey (.int .i64) (.int .i64 x) from rfl) b 9999
  same x := by
    show Instr.sameBits (9999 + 1) (intk x) (intk x) = true
    simp [intk, Instr.sameBits]
  find x es ks w hks := by
    have hk : ∀ y ∈ es, MapKept.IsKey (.int .i64) y.key := fun y hy => by
      have : y.key ∈ es.map (·.key) := List.mem_map.2 ⟨y, hy, rfl⟩
      rw [hks] at this
      obtain ⟨z, _, e⟩ := List.mem_map.1 this
      rw [← e]; rfl
    rcases MapKept.findNow_spec (d := .int .i64) (k := intk x) rfl es 0 hk with ⟨h1, h2⟩ | ⟨j, e, h1, h2, h3⟩
    · refine .inl ⟨MapKept.run_findKey h.out h1, fun hm => ?_⟩
      have : intk x ∈ ks.map intk := List.mem_map.2 ⟨x, hm, rfl⟩
      rw [← hks] at this
      obtain ⟨y, hy, e⟩ := List.mem_map.1 this
      exact h2 y hy e
    · refine .inr ⟨j, e, by rw [MapKept.run_findKey h.out h1, Nat.zero_add], h2, ?_⟩
      have h4 : (es.map (·.key))[j]? = some (intk x) := by rw [List.getElem?_map, h2]; simp [h3]
      rw [hks, List.getElem?_map] at h4
      cases hq : ks[j]? with
      | none => rw [hq] at h4; cases h4
      | some y =>
        rw [hq] at h4
        simp [intk] at h4
        rw [h4]
section
variable {K V : Type} [DecidableEq K]
def lkp : List (K × V) → K → Option V
  | [], _ => none
  | (y, u) :: l, x => if y = x then some u else lkp l x
def ups : List (K × V) → K → V → List (K × V)
  | [], x, v => [(x, v)]
  | (y, u) :: l, x, v => if y = x then (x, v) :: l else (y, u) :: ups l x v
def del : List (K × V) → K → List (K × V)
  | [], _ => []
  | (y, u) :: l, x => if y = x then l else (y, u) :: del l x
theorem lkp_none : ∀ {l : List (K × V)} {x : K}, lkp l x = none ↔ x ∉ l.map (·.1)
  | [], x => by simp [lkp]
  | (y, u) :: l, x => by
    by_cases h : y = x
    · subst h; simp [lkp]
    · have := lkp_none (l := l) (x := x)
      simp only [lkp, h, if_false, this, List.map_cons, List.mem_cons, not_or]
      exact ⟨fun h1 => ⟨fun e => h e.symm, h1⟩, fun h1 => h1.2⟩
theorem lkp_mem : ∀ {l : List (K × V)} {x : K} {v : V}, lkp l x = some v → (x, v) ∈ l
  | [], x, v, h => by simp [lkp] at h
  | (y, u) :: l, x, v, h => by
    by_cases hy : y = x
    · subst hy; simp [lkp] at h; subst h; exact List.mem_cons_self ..
    · simp only [lkp, hy, if_false] at h
      exact List.mem_cons_of_mem _ (lkp_mem h)
theorem lkp_of_mem : ∀ {l : List (K × V)}, (l.map (·.1)).Nodup → ∀ {x : K} {v : V}, (x, v) ∈ l → lkp l x = some v
  | [], _, x, v, h => by simp at h
  | (y, u) :: l, hn, x, v, h => by
    simp only [List.map_cons, List.nodup_cons] at hn
    rcases List.mem_cons.1 h with h | h
    · cases h; simp [lkp]
    · have hne : y ≠ x := fun e => hn.1 (e ▸ List.mem_map.2 ⟨_, h, rfl⟩)
      simp only [lkp, hne, if_false]
      exact lkp_of_mem hn.2 h
theorem lkp_ups : ∀ (l : List (K × V)) (x : K) (v : V) (y : K), lkp (ups l x v) y = if x = y then some v else lkp l y
  | [], x, v, y => by simp [ups, lkp]
  | (z, u) :: l, x, v, y => by
    by_cases h : z = x
    · subst h
      simp only [ups, if_true, lkp]
      split <;> rfl
    · simp only [ups, h, if_false, lkp, lkp_ups l x v y]
      by_cases hz : z = y
      · have : ¬ x = y := fun e => h (hz.trans e.symm)
        simp [hz, this]
      · simp [hz]
theorem ups_keys : ∀ (l : List (K × V)) (x : K) (v : V), (ups l x v).map (·.1) = if x ∈ l.map (·.1) then l.map (·.1) else l.map (·.1) ++ [x]
  | [], x, v => by simp [ups]
  | (z, u) :: l, x, v => by
    by_cases h : z = x
    · subst h; simp [ups]
    · have h' : ¬ x = z := fun e => h e.symm
      simp only [ups, h, if_false, List.map_cons, ups_keys l x v, List.mem_cons, h', false_or]
      split <;> rfl
theorem ups_nodup {l : List (K × V)} (hn : (l.map (·.1)).Nodup) (x : K) (v : V) : ((ups l x v).map (·.1)).Nodup := by
  rw [ups_keys]
  split
  · exact hn
  · rename_i h
    refine List.nodup_append.2 ⟨hn, by simp, fun a ha b hb e => ?_⟩
    simp only [List.mem_singleton] at hb
    subst e hb
    exact h ha
theorem ups_length (l : List (K × V)) (x : K) (v : V) : (ups l x v).length = if (lkp l x).isSome then l.length else l.length + 1 := by
  have h : ((ups l x v).map (·.1)).length = (ups l x v).length := List.length_map ..
  rw [← h, ups_keys]
  cases hq : lkp l x with
  | none => simp [lkp_none.1 hq]
  | some u =>
    have : x ∈ l.map (·.1) := List.mem_map.2 ⟨_, lkp_mem hq, rfl⟩
    simp [this]
theorem ups_set : ∀ {l : List (K × V)}, (l.map (·.1)).Nodup → ∀ {i : Nat} {x : K}, (l.map (·.1))[i]? = some x → ∀ v, ups l x v = l.set i (x, v)
  | [], _, i, x, h, v => by simp at h
  | (z, u) :: l, hn, 0, x, h, v => by simp at h; subst h; simp [ups]
  | (z, u) :: l, hn, i + 1, x, h, v => by
    simp only [List.map_cons, List.nodup_cons, List.getElem?_cons_succ] at hn h
    have hne : z ≠ x := fun e => hn.1 (e ▸ List.mem_of_getElem? h)
    simp only [ups, hne, if_false, List.set_cons_succ, ups_set hn.2 h v]
theorem ups_new : ∀ {l : List (K × V)} {x : K}, x ∉ l.map (·.1) → ∀ v, ups l x v = l ++ [(x, v)]
  | [], x, _, v => rfl
  | (z, u) :: l, x, h, v => by
    simp only [List.map_cons, List.mem_cons, not_or] at h
    simp only [ups, fun e => h.1 (Eq.symm e), if_false, ups_new h.2 v, List.cons_append]
    rw [if_neg fun e => h.1 e.symm]
theorem lkp_idx : ∀ {l : List (K × V)}, (l.map (·.1)).Nodup → ∀ {i : Nat} {p : K × V}, l[i]? = some p → lkp l p.1 = some p.2
  | l, hn, i, (x, v), h => lkp_of_mem hn (List.mem_of_getElem? h)
theorem del_idx : ∀ {l : List (K × V)}, (l.map (·.1)).Nodup → ∀ {i : Nat} {x : K}, (l.map (·.1))[i]? = some x → del l x = l.eraseIdx i
  | [], _, i, x, h => by simp at h
  | (z, u) :: l, hn, 0, x, h => by simp at h; subst h; simp [del]
  | (z, u) :: l, hn, i + 1, x, h => by
    simp only [List.map_cons, List.nodup_cons, List.getElem?_cons_succ] at hn h
    have hne : z ≠ x := fun e => hn.1 (e ▸ List.mem_of_getElem? h)
    simp only [del, hne, if_false, List.eraseIdx_cons_succ, del_idx hn.2 h]
theorem del_none : ∀ {l : List (K × V)} {x : K}, x ∉ l.map (·.1) → del l x = l
  | [], x, _ => rfl
  | (z, u) :: l, x, h => by
    simp only [List.map_cons, List.mem_cons, not_or] at h
    unfold del
    rw [if_neg fun e => h.1 e.symm, del_none h.2]
theorem del_sub : ∀ (l : List (K × V)) (x : K), (del l x).Sublist l
  | [], _ => List.Sublist.refl _
  | (z, u) :: l, x => by
    unfold del
    split
    · exact List.sublist_cons_self ..
    · exact (del_sub l x).cons_cons _
theorem del_nodup {l : List (K × V)} (hn : (l.map (·.1)).Nodup) (x : K) : ((del l x).map (·.1)).Nodup := hn.sublist ((del_sub l x).map _)
theorem lkp_del : ∀ {l : List (K × V)}, (l.map (·.1)).Nodup → ∀ (x y : K), lkp (del l x) y = if x = y then none else lkp l y
  | [], _, x, y => by simp [del, lkp]
  | (z, u) :: l, hn, x, y => by
    simp only [List.map_cons, List.nodup_cons] at hn
    by_cases h : z = x
    · subst h
      simp only [del, if_true, lkp]
      by_cases hz : z = y
      · subst hz; simp [lkp_none.2 hn.1]
      · simp [hz]
    · simp only [del, h, if_false, lkp, lkp_del hn.2 x y]
      by_cases hz : z = y
      · have : ¬ x = y := fun e => h (hz.trans e.symm)
        simp [hz, this]
      · simp [hz]
theorem del_length : ∀ (l : List (K × V)) (x : K), (del l x).length = if (lkp l x).isSome then l.length - 1 else l.length
  | [], x => by simp [del, lkp]
  | (z, u) :: l, x => by
    by_cases h : z = x
    · subst h; simp [del, lkp]
    · simp only [del, h, if_false, lkp, List.length_cons, del_length l x]
      cases hq : lkp l x with
      | none => simp
      | some v =>
        have : 0 < l.length := List.length_pos_of_mem (lkp_mem hq)
        simp; omega
end
theorem set_same {α : Type} : ∀ {l : List α} {i : Nat} {x : α}, l[i]? = some x → l.set i x = l
  | [], i, x, h => by simp at h
  | y :: l, 0, x, h => by simp at h; subst h; rfl
  | y :: l, i + 1, x, h => by simp only [List.getElem?_cons_succ] at h; simp only [List.set_cons_succ, set_same h]
theorem map_erase {α β : Type} (f : α → β) : ∀ (l : List α) (j : Nat), (l.eraseIdx j).map f = (l.map f).eraseIdx j
  | [], _ => by simp
  | _ :: _, 0 => by simp
  | a :: r, j + 1 => by simp [map_erase f r j]
structure MpR {K V : Type} (f : K → Value) (g : V → Value) (es : Array MapEntry) (c : Nat) (l : List (K × V)) : Prop where
  map : es.toList.map (fun e => (e.key, e.val)) = l.map (fun p => (f p.1, g p.2))
  born : ∀ x ∈ es.toList, x.born < c
  nodup : (es.toList.map (·.born)).Nodup
  keys : (l.map (·.1)).Nodup
section
variable {K V : Type} {f : K → Value} {g : V → Value} {es : Array MapEntry} {c : Nat} {l : List (K × V)}
theorem MpR.nil (f : K → Value) (g : V → Value) (c : Nat) : MpR f g #[] c [] := ⟨rfl, by simp, by simp, by simp⟩
theorem MpR.len (h : MpR f g es c l) : es.size = l.length := by
  have := congrArg List.length h.map
  simpa using this
theorem MpR.ks (h : MpR f g es c l) : es.toList.map (·.key) = (l.map (·.1)).map f := by
  have := congrArg (List.map Prod.fst) h.map
  simpa [List.map_map, Function.comp_def] using this
theorem MpR.at (h : MpR f g es c l) {i : Nat} {e : MapEntry} (he : es.toList[i]? = some e) : ∃ p, l[i]? = some p ∧ e.key = f p.1 ∧ e.val = g p.2 := by
  have h1 : (es.toList.map (fun e => (e.key, e.val)))[i]? = some (e.key, e.val) := by rw [List.getElem?_map, he]; rfl
  rw [h.map, List.getElem?_map] at h1
  cases hq : l[i]? with
  | none => rw [hq] at h1; cases h1
  | some p =>
    rw [hq] at h1
    simp only [Option.map_some, Option.some.injEq, Prod.mk.injEq] at h1
    exact ⟨p, rfl, h1.1.symm, h1.2.symm⟩
theorem MpR.push (h : MpR f g es c l) {x : K} (hx : x ∉ l.map (·.1)) (v : V) : MpR f g (es.push { key := f x, val := g v, born := c }) (c + 1) (l ++ [(x, v)]) := by
  refine ⟨by simp [h.map], fun y hy => ?_, ?_, ?_⟩
  · simp only [Array.toList_push, List.mem_append, List.mem_singleton] at hy
    rcases hy with hy | rfl
    · exact Nat.lt_succ_of_lt (h.born y hy)
    · exact Nat.lt_succ_self _
  · simp only [Array.toList_push, List.map_append, List.map_cons, List.map_nil]
    refine List.nodup_append.2 ⟨h.nodup, by simp, fun a ha b hb => ?_⟩
    simp only [List.mem_singleton] at hb
    subst hb
    obtain ⟨y, hy, rfl⟩ := List.mem_map.1 ha
    exact Nat.ne_of_lt (h.born y hy)
  · rw [List.map_append]
    refine List.nodup_append.2 ⟨h.keys, by simp, fun a ha b hb e => ?_⟩
    simp only [List.map_cons, List.map_nil, List.mem_singleton] at hb
    subst e hb
    exact hx ha
theorem MpR.mod (h : MpR f g es c l) {i : Nat} {x : K} (hi : (l.map (·.1))[i]? = some x) (v : V) : MpR f g (es.modify i fun e => { e with key := f x, val := g v }) c (l.set i (x, v)) := by
  have hlen := h.len
  have hil : i < l.length := by have := (List.getElem?_eq_some_iff.1 hi).1; simpa using this
  have hset : (es.modify i fun e => { e with key := f x, val := g v }).toList.map (·.born) = es.toList.map (·.born) := by
    refine List.ext_getElem? fun j => ?_
    simp only [List.getElem?_map, Array.getElem?_toList, Array.getElem?_modify]
    by_cases hij : i = j
    · subst hij; cases es[i]? <;> simp
    · simp [hij]
  refine ⟨?_, fun y hy => ?_, by rw [hset]; exact h.nodup, ?_⟩
  · refine List.ext_getElem? fun j => ?_
    have hj : (es.toList.map (fun e => (e.key, e.val)))[j]? = (l.map (fun p => (f p.1, g p.2)))[j]? := by rw [h.map]
    simp only [List.getElem?_map, Array.getElem?_toList, Array.getElem?_modify, List.getElem?_set] at hj ⊢
    by_cases hij : i = j
    · subst hij
      have h1 : i < es.size := by omega
      simp [h1, hil]
    · simp only [hij, if_false]
      exact hj
  · have h1 : y.born ∈ (es.modify i fun e => { e with key := f x, val := g v }).toList.map (·.born) := List.mem_map.2 ⟨y, hy, rfl⟩
    rw [hset] at h1
    obtain ⟨z, hz, e⟩ := List.mem_map.1 h1
    rw [← e]
    exact h.born z hz
  · have : (l.set i (x, v)).map (·.1) = l.map (·.1) := by
      rw [List.map_set]
      exact set_same hi
    rw [this]
    exact h.keys
theorem MpR.era (h : MpR f g es c l) {i : Nat} (hi : i < l.length) : MpR f g (es.eraseIdxIfInBounds i) c (l.eraseIdx i) := by
  have hlen := h.len
  have he : (es.eraseIdxIfInBounds i).toList = es.toList.eraseIdx i := by
    unfold Array.eraseIdxIfInBounds
    rw [dif_pos (by omega)]
    simp
  have hs := List.eraseIdx_sublist es.toList i
  refine ⟨?_, fun x hx => ?_, ?_, ?_⟩
  · rw [he, map_erase, h.map, map_erase]
  · rw [he] at hx; exact h.born x (hs.subset hx)
  · rw [he]; exact h.nodup.sublist (hs.map _)
  · rw [map_erase]; exact h.keys.sublist (List.eraseIdx_sublist ..)
end
def dpMp {K V : Type} (f : K → Value) (g : V → Value) (b : Nat) (l : List (K × V)) : DP := ⟨fun H => ∃ es c, H[b]? = some (.map es c) ∧ MpR f g es c l, fun k => k = b,
  fun H k h e => by subst e; obtain ⟨es, c, h, _⟩ := h; exact (Array.getElem?_eq_some_iff.1 h).1, fun H H' hd h => by obtain ⟨es, c, h, hr⟩ := h; exact ⟨es, c, (hd.maps b _ h rfl rfl).trans h, hr⟩⟩
section
variable {P : Program} {N : Fm} {ops : Array Oper} {Q : Exit → Act → World → Prop} {rest : List Oper} {σ : Store} {d : Tmp} {t : TypeId} {pos : String} {af : Array Edge} {S : Nat → Prop} {w0 w w' : World} {L : List VB} {D : List DP} {gd : Option (Nat × Bool)} {do_ : Option Tmp}
variable {K V : Type} [DecidableEq K] {f : K → Value} {g : V → Value} {b : Nat} {l : List (K × V)}
theorem Fr.mp (h : Fr w0 w L D S) (hm : dpMp f g b l ∈ D) : ∃ es c, w.heap[b]? = some (.map es c) ∧ MpR f g es c l := h.data _ hm
theorem TL.makeMpFr (f : K → Value) (g : V → Value) (hF : Fr w0 w L D S) {ty : TypeId} (hd : Nat.blt d N.n = true)
    (K' : ∀ w' b, b = w.heap.size → Fr w0 w' L (dpMp f g b [] :: D) S → TL P N .seq ops Q rest ((d, .map (some b)) :: σ) w') :
    TL P N .seq ops Q (⟨some d, .makeMap ty none, t, pos, af, none⟩ :: rest) σ w := by
  refine TL.op (w' := w.alloc (.map #[] 0)) (fun ρ hρ => ?_) hd (K' _ _ rfl (hF.addNew (ext_alloc _ _) _ (by unfold dpMp; exact ⟨_, _, heap_alloc .., MpR.nil ..⟩) fun k hk => (by unfold dpMp at hk; exact Nat.le_of_eq hk.symm)))
  simp [execOp, Instr.makeMap]
theorem Fr.mpUpd {l' : List (K × V)} {es es' : Array MapEntry} {c c' : Nat} (hF : Fr w0 w L (dpMp f g b l :: D) S) (hb : w0.heap.size ≤ b ∨ S b) (hfree : ∀ x ∈ D, ¬ x.fp b) (hm : w.heap[b]? = some (.map es c)) (hr : MpR f g es' c' l') :
    Fr w0 (w.putObj b (.map es' c')) L (dpMp f g b l' :: D) S := by
  have h0 : Fr w0 w L (dpMap b es c :: D) S := by
    refine Fr.add (hF.weak (List.Sublist.refl _) fun d hd => List.mem_cons_of_mem _ hd) _ (by unfold dpMap; exact hm) fun v hv hk => ?_
    unfold dpMap at hk
    exact hF.apart v hv _ (List.mem_cons_self ..) (by unfold dpMp; exact hk)
  have h1 := h0.mapUpd (c' := c') (es' := es') hb hfree
  refine Fr.add (h1.weak (List.Sublist.refl _) fun d hd => List.mem_cons_of_mem _ hd) _ (by unfold dpMp; exact ⟨_, _, (by have := h1.map (List.mem_cons_self ..); exact this), hr⟩) fun v hv hk => ?_
  exact hF.apart v hv _ (List.mem_cons_self ..) (by unfold dpMp at hk ⊢; exact hk)
theorem run_find {k : TypeId} [hK : UKey P k K f] {es : Array MapEntry} {c : Nat} (h : MpR f g es c l) (x : K) (w : World) :
    ((Instr.findKey k (f x) es.toList).run P w = .ok none w ∧ x ∉ l.map (·.1)) ∨ ∃ i v, (Instr.findKey k (f x) es.toList).run P w = .ok (some (i, g v)) w ∧ l[i]? = some (x, v) ∧ ∃ e, es[i]? = some e ∧ e.key = f x := by
  rcases hK.find x es.toList _ w h.ks with h1 | ⟨i, e, h1, h2, h3⟩
  · exact .inl h1
  · obtain ⟨p, hp, hk, hv⟩ := h.at h2
    rw [List.getElem?_map, hp] at h3
    simp only [Option.map_some, Option.some.injEq] at h3
    obtain ⟨a, v⟩ := p
    simp only at h3 hk hv
    subst h3
    exact .inr ⟨i, v, by rw [h1, hv], hp, e, by simpa using h2, hk⟩
theorem ev_mlook (hF : Fr w0 w L D S) {x i : Operand} {ty k e : TypeId} [hT : UMap P ty k e] [hK : UKey P k K f] {z : Value} {sz b1 : Nat} [hS : USize P e z sz b1] {y : K} (hx : look σ x = some (.map (some b))) (hi : look σ i = some (f y)) (hm : dpMp f g b l ∈ D) :
    Ev P σ w.heap ⟨do_, .lookup ty x i false, t, pos, af, gd⟩ ((lkp l y).elim z g) := by
  unfold Ev
  intro ρ w1 hρ hw
  obtain ⟨es, c, hb, hr⟩ := hF.mp hm
  rw [← hw] at hb
  obtain ⟨ii, hii, hz, _⟩ := hS.info
  rcases run_find (P := P) (k := k) hr y w1 with ⟨h1, h2⟩ | ⟨i', v, h1, h2, _⟩
  · rw [lkp_none.2 h2]
    simp [execOp, hρ x _ hx, hρ i _ hi, Instr.lookup, run_underlying hT.out, MapKept.run_getObj_map hb, hK.chk, h1, Result.andThen, zeroValue, typeInfo, hii, hz]
  · rw [lkp_idx hr.keys h2]
    simp [execOp, hρ x _ hx, hρ i _ hi, Instr.lookup, run_underlying hT.out, MapKept.run_getObj_map hb, hK.chk, h1, Result.andThen]
theorem ev_mlookOk (hF : Fr w0 w L D S) {x i : Operand} {ty k e : TypeId} [hT : UMap P ty k e] [hK : UKey P k K f] {z : Value} {sz b1 : Nat} [hS : USize P e z sz b1] {y : K} (hx : look σ x = some (.map (some b))) (hi : look σ i = some (f y)) (hm : dpMp f g b l ∈ D) :
    Ev P σ w.heap ⟨do_, .lookup ty x i true, t, pos, af, gd⟩ (.tuple #[(lkp l y).elim z g, .bool (lkp l y).isSome]) := by
  unfold Ev
  intro ρ w1 hρ hw
  obtain ⟨es, c, hb, hr⟩ := hF.mp hm
  rw [← hw] at hb
  obtain ⟨ii, hii, hz, _⟩ := hS.info
  rcases run_find (P := P) (k := k) hr y w1 with ⟨h1, h2⟩ | ⟨i', v, h1, h2, _⟩
  · rw [lkp_none.2 h2]
    simp [execOp, hρ x _ hx, hρ i _ hi, Instr.lookup, run_underlying hT.out, MapKept.run_getObj_map hb, hK.chk, h1, Result.andThen, zeroValue, typeInfo, hii, hz]
  · rw [lkp_idx hr.keys h2]
    simp [execOp, hρ x _ hx, hρ i _ hi, Instr.lookup, run_underlying hT.out, MapKept.run_getObj_map hb, hK.chk, h1, Result.andThen]
theorem ev_mlen (hF : Fr w0 w L D S) {x : Operand} {ty k e : TypeId} [hT : UMap P ty k e] (hx : look σ x = some (.map (some b))) (hm : dpMp f g b l ∈ D) :
    Ev P σ w.heap ⟨do_, .call { callee := .builtin .len, args := #[x], argTypes := #[ty] }, t, pos, af, gd⟩ (.int .i64 (l.length : Int)) := by
  unfold Ev
  intro ρ w1 hρ hw
  obtain ⟨es, c, hb, hr⟩ := hF.mp hm
  rw [← hw] at hb
  simp [execOp, hρ x _ hx, resolve, invoke, builtin, Builtin.len_, run_underlying hT.out, goInt, MapKept.run_getObj_map hb, Result.andThen, hr.len]
theorem TL.op0v {op : Op} {v : Value} {w' : World} (h : ∀ ρ, Agree σ ρ → (execOp ρ ⟨none, op, t, pos, af, none⟩).run P w = .ok (.value v) w') (k : TL P N .seq ops Q rest σ w') :
    TL P N .seq ops Q (⟨none, op, t, pos, af, none⟩ :: rest) σ w := by
  unfold TL at k ⊢
  intro a ha
  refine wpList_plain rfl fun K hK => ?_
  unfold Oper.wp
  rw [h _ ha.agree]
  exact hK _ _ (k _ (ha.putNone _))
theorem putObj_eq {w : World} {b : Nat} {o : Obj} : w.putObj b o = { w with heap := w.heap.setIfInBounds b o } := rfl
theorem TL.mupd (hF : Fr w0 w L (dpMp f g b l :: D) S) (hb : w0.heap.size ≤ b ∨ S b) (hfree : ∀ x ∈ D, ¬ x.fp b) {x i y : Operand} {ty k e : TypeId} [hT : UMap P ty k e] [hK : UKey P k K f] {q : K} {v : V}
    (hx : look σ x = some (.map (some b))) (hi : look σ i = some (f q)) (hy : look σ y = some (g v)) (K' : ∀ w', Fr w0 w' L (dpMp f g b (ups l q v) :: D) S → TL P N .seq ops Q rest σ w') :
    TL P N .seq ops Q (⟨none, .mapUpdate ty x i y, t, pos, af, none⟩ :: rest) σ w := by
  obtain ⟨es, c, hm, hr⟩ := hF.mp (List.mem_cons_self ..)
  rcases run_find (P := P) (k := k) hr q w with ⟨h1, h2⟩ | ⟨j, u, h1, h2, en, h3, h4⟩
  · refine TL.op0 (fun ρ hρ => ?_) (K' _ (hF.mpUpd hb hfree hm (by rw [ups_new h2]; exact hr.push h2 v)))
    simp [execOp, hρ x _ hx, hρ i _ hi, hρ y _ hy, Instr.mapUpdate, run_underlying hT.out, MapKept.run_getObj_map hm, hK.chk, h1, Result.andThen, MapKept.run_setObj_map _ hm, putObj_eq]
  · have hj : (l.map (·.1))[j]? = some q := by rw [List.getElem?_map, h2]; rfl
    refine TL.op0 (fun ρ hρ => ?_) (K' _ (hF.mpUpd hb hfree hm (by rw [ups_set hr.keys hj]; exact hr.mod hj v)))
    simp [execOp, hρ x _ hx, hρ i _ hi, hρ y _ hy, Instr.mapUpdate, run_underlying hT.out, MapKept.run_getObj_map hm, hK.chk, h1, h3, h4, Instr.keyThatStays, hK.same, Result.andThen, MapKept.run_setObj_map _ hm, putObj_eq]
theorem TL.mdel (hF : Fr w0 w L (dpMp f g b l :: D) S) (hb : w0.heap.size ≤ b ∨ S b) (hfree : ∀ x ∈ D, ¬ x.fp b) {x i : Operand} {ty k e : TypeId} [hT : UMap P ty k e] [hK : UKey P k K f] {q : K}
    (hx : look σ x = some (.map (some b))) (hi : look σ i = some (f q)) (K' : ∀ w', Fr w0 w' L (dpMp f g b (del l q) :: D) S → TL P N .seq ops Q rest σ w') :
    TL P N .seq ops Q (⟨none, .call { callee := .builtin .delete, args := #[x, i], argTypes := #[ty, k] }, t, pos, af, none⟩ :: rest) σ w := by
  obtain ⟨es, c, hm, hr⟩ := hF.mp (List.mem_cons_self ..)
  rcases run_find (P := P) (k := k) hr q w with ⟨h1, h2⟩ | ⟨j, u, h1, h2, en, h3, h4⟩
  · refine TL.op0v (v := .tuple #[]) (fun ρ hρ => ?_) (K' _ (hF.mpUpd hb hfree hm (by rw [del_none h2]; exact hr)))
    simp [execOp, hρ x _ hx, hρ i _ hi, resolve, invoke, builtin, Builtin.delete_, run_underlying hT.out, MapKept.run_getObj_map hm, hK.chk, h1, Result.andThen, MapKept.run_setObj_map _ hm, putObj_eq]
  · have hj : (l.map (·.1))[j]? = some q := by rw [List.getElem?_map, h2]; rfl
    refine TL.op0v (v := .tuple #[]) (fun ρ hρ => ?_) (K' _ (hF.mpUpd hb hfree hm (by rw [del_idx hr.keys hj]; exact hr.era (List.getElem?_eq_some_iff.1 h2).1)))
    simp [execOp, hρ x _ hx, hρ i _ hi, resolve, invoke, builtin, Builtin.delete_, run_underlying hT.out, MapKept.run_getObj_map hm, hK.chk, h1, Result.andThen, MapKept.run_setObj_map _ hm, putObj_eq]
end
attribute [irreducible] dpMp
end Go.Eng
set_option linter.unusedSectionVars false
namespace Go.Eng
open Go Go.RowKit
theorem run_getObj_o {P : Program} {w : World} {r : Nat} {o : Obj} (h : w.heap[r]? = some o) (hc : mapO o = true) : (getObj r).run P w = .ok o w := by
  cases o <;> first | cases hc; done | simp [getObj, Sem.run, h]
theorem run_setObj_o {P : Program} {w : World} {r : Nat} {o : Obj} (o' : Obj) (h : w.heap[r]? = some o) (hc : mapO o = true) : (setObj r o').run P w = .ok () (w.putObj r o') := by
  cases o <;> first | cases hc; done | simp [setObj, Sem.run, h, putObj_eq]
def dpIt {K V : Type} (f : K → Value) (g : V → Value) (r b : Nat) (l done todo : List (K × V)) : DP := ⟨fun H => ∃ (es : Array MapEntry) (c : Nat) (E T : List MapEntry), H[b]? = some (.map es c) ∧ MpR f g es c l ∧ H[r]? = some (.mapIter (some b) c (E.map (·.born)).toArray c) ∧ (E ++ T).Perm es.toList ∧
    E.map (fun e => (e.key, e.val)) = done.map (fun p => (f p.1, g p.2)) ∧ T.map (fun e => (e.key, e.val)) = todo.map (fun p => (f p.1, g p.2)), fun k => k = r ∨ k = b,
  fun H k h e => by
    obtain ⟨es, c, E, T, h1, _, h2, _⟩ := h
    rcases e with rfl | rfl
    · exact (Array.getElem?_eq_some_iff.1 h2).1
    · exact (Array.getElem?_eq_some_iff.1 h1).1,
  fun H H' hd h => by
    obtain ⟨es, c, E, T, h1, h2, h3, h4⟩ := h
    exact ⟨es, c, E, T, (hd.maps b _ h1 rfl (.inr rfl)).trans h1, h2, (hd.maps r _ h3 rfl (.inl rfl)).trans h3, h4⟩⟩
section
variable {P : Program} {N : Fm} {ops : Array Oper} {Q : Exit → Act → World → Prop} {rest : List Oper} {σ : Store} {d : Tmp} {t : TypeId} {pos : String} {af : Array Edge} {S : Nat → Prop} {w0 w w' : World} {L : List VB} {D : List DP} {gd : Option (Nat × Bool)} {do_ : Option Tmp}
variable {K V : Type} [DecidableEq K] {f : K → Value} {g : V → Value} {r b : Nat} {l done todo : List (K × V)}
theorem Fr.putO {x y : DP} {o o' : Obj} (hF : Fr w0 w L (x :: D) S) (ho : w.heap[r]? = some o) (hc : o.isCells = false) (hb : w0.heap.size ≤ r ∨ S r) (hfree : ∀ x ∈ D, ¬ x.fp r) (hy : y.p (w.putObj r o').heap) (hyL : ∀ v ∈ L, ¬ y.fp v.b) :
    Fr w0 (w.putObj r o') L (y :: D) S := by
  have hne : ∀ v ∈ L, v.b ≠ r := fun v hv e => by
    have h1 := (hF.vars v hv).2
    unfold Vr at h1
    rw [e, ho] at h1
    cases h1
    cases hc
  have hother : ∀ k, k ≠ r → (w.putObj r o').heap[k]? = w.heap[k]? := fun k hk => World.putObj_heap_other hk
  have hsize : (w.putObj r o').heap.size = w.heap.size := World.putObj_size
  refine ⟨⟨hF.exs.os, hF.exs.tape, hF.exs.output, by rw [hsize]; exact hF.exs.size, fun k hk hs => ?_⟩, fun v hv => ⟨(hF.vars v hv).1, ?_⟩, hF.dist, fun x hx => ?_, fun v hv x hx => ?_⟩
  · rw [hother k (fun e => by subst e; exact hb.elim (fun h => absurd h (Nat.not_le_of_gt hk)) hs)]
    exact hF.exs.block k hk hs
  · have h1 := (hF.vars v hv).2
    unfold Vr at h1 ⊢
    rw [hother _ (hne v hv)]; exact h1
  · rcases List.mem_cons.1 hx with rfl | hx
    · exact hy
    · refine x.st _ _ ⟨Nat.le_of_eq hsize.symm, fun k cs t y hk _ => hother k fun e => ?_, fun k o hk _ hf => hother k fun e => hfree x hx (e ▸ hf)⟩ (hF.data x (List.mem_cons_of_mem _ hx))
      rw [e, ho] at hk
      cases hk
      cases hc
  · rcases List.mem_cons.1 hx with rfl | hx
    · exact hyL v hv
    · exact hF.apart v hv x (List.mem_cons_of_mem _ hx)
theorem TL.rangeFr (hF : Fr w0 w L D S) {x : Operand} {ty k e : TypeId} [hT : UMap P ty k e] (hx : look σ x = some (.map (some b))) (hm : dpMp f g b l ∈ D) (hd : Nat.blt d N.n = true)
    (K' : ∀ w' r, r = w.heap.size → Fr w0 w' L (dpIt f g r b l [] l :: D) S → TL P N .seq ops Q rest ((d, .pointer (some ⟨r, 0, none⟩)) :: σ) w') :
    TL P N .seq ops Q (⟨some d, .range ty x, t, pos, af, none⟩ :: rest) σ w := by
  obtain ⟨es, c, hb, hr⟩ := hF.mp hm
  have hlt := (Array.getElem?_eq_some_iff.1 hb).1
  refine TL.op (w' := w.alloc (.mapIter (some b) c #[] c)) (fun ρ hρ => ?_) hd (K' _ _ rfl ?_)
  · simp [execOp, hρ x _ hx, run_range_map w ty k e b es c hT.out hb]
  · refine (hF.exts (ext_alloc _ _)).add _ ?_ ?_
    · unfold dpIt
      exact ⟨es, c, [], es.toList, ((ext_alloc w _).block b hlt).trans hb, hr, heap_alloc .., List.Perm.refl _, rfl, hr.map⟩
    · intro v hv hk
      unfold dpIt at hk
      rcases hk with hk | hk
      · have h1 := (hF.vars v hv).2.lt
        omega
      · exact hF.apart v hv _ hm (by unfold dpMp; exact hk)
theorem perm_split {α β : Type} {F : α → β} {e : α} {T : List α} (he : e ∈ T) {γ : Type} {G : γ → β} {todo : List γ} (h : T.map F = todo.map G) :
    ∃ T1 T2 t1 p t2, T = T1 ++ e :: T2 ∧ todo = t1 ++ p :: t2 ∧ F e = G p ∧ (T1 ++ T2).map F = (t1 ++ t2).map G := by
  obtain ⟨T1, T2, rfl⟩ := List.append_of_mem he
  rw [List.map_append, List.map_cons] at h
  obtain ⟨t1, t2', rfl, h1, h2⟩ := List.map_eq_append_iff.1 h.symm
  obtain ⟨p, t2, rfl, h3, h4⟩ := List.map_eq_cons_iff.1 h2
  exact ⟨T1, T2, t1, p, t2, rfl, rfl, h3.symm, by rw [List.map_append, List.map_append, h1, h4]⟩
theorem run_choose (n : Nat) (hn : 0 < n) (w : World) : ∃ (j : Nat) (k : Nat), j < n ∧ (choose (.mapNext n)).run P w = .ok j (w.drewN k) := by
  by_cases hf : n ≤ 1
  · exact ⟨0, 0, hn, by simp [choose, Sem.run, Question.forced, hf]; rfl⟩
  · have h : ∃ j, j < n ∧ (choose (.mapNext n)).run P w = .ok j w.drew := ⟨_, Nat.mod_lt _ hn, by
      simp only [choose, Sem.run, Question.forced, decide_eq_true_eq, hf, if_false, Question.cut]
      rfl⟩
    obtain ⟨j, h1, h2⟩ := h
    exact ⟨j, 1, h1, h2⟩
theorem TL.nextFr (hF : Fr w0 w L (dpIt f g r b l done todo :: D) S) (hr : w0.heap.size ≤ r ∨ S r) (hfree : ∀ x ∈ D, ¬ x.fp r) {x : Operand} (hx : look σ x = some (.pointer (some ⟨r, 0, none⟩))) (hd : Nat.blt d N.n = true)
    (h0 : todo = [] → ∀ w', Fr w0 w' L (dpIt f g r b l done [] :: D) S → TL P N .seq ops Q rest ((d, .tuple #[.bool false]) :: σ) w')
    (h1 : ∀ p todo' w', todo.Perm (p :: todo') → Fr w0 w' L (dpIt f g r b l (done ++ [p]) todo' :: D) S → TL P N .seq ops Q rest ((d, .tuple #[.bool true, f p.1, g p.2]) :: σ) w') :
    TL P N .seq ops Q (⟨some d, .next x false, t, pos, af, none⟩ :: rest) σ w := by
  have hI := hF.data _ (List.mem_cons_self ..)
  unfold dpIt at hI
  obtain ⟨es, c, E, T, hb, hR, hr0, hp, hE, hT⟩ := hI
  have hnd : ((E ++ T).map (·.born)).Nodup := (hp.map (·.born)).nodup_iff.2 hR.nodup
  rw [List.map_append] at hnd
  have hdis := (List.nodup_append.1 hnd).2.2
  have hl : (es.filter fun e => !(E.map (·.born)).toArray.contains e.born).toList.Perm T := by
    rw [Array.toList_filter]
    refine (hp.symm.filter _).trans ?_
    rw [List.filter_append]
    have e1 : E.filter (fun e => !(E.map (·.born)).toArray.contains e.born) = [] := by
      rw [List.filter_eq_nil_iff]
      intro y hy
      simp only [Bool.not_eq_true', Bool.not_eq_false, List.contains_toArray, List.contains_iff_mem]
      exact List.mem_map.2 ⟨y, hy, rfl⟩
    have e2 : T.filter (fun e => !(E.map (·.born)).toArray.contains e.born) = T := by
      rw [List.filter_eq_self]
      intro y hy
      cases hc : (E.map (·.born)).toArray.contains y.born with
      | false => rfl
      | true =>
        exfalso
        simp only [List.contains_toArray, List.contains_iff_mem] at hc
        exact hdis _ hc _ (List.mem_map.2 ⟨y, hy, rfl⟩) rfl
    rw [e1, e2]
    exact List.Perm.refl _
  generalize hLd : (es.filter fun e => !(E.map (·.born)).toArray.contains e.born) = Lf at hl
  have htest : (!(E.map (·.born)).toArray.isEmpty && !es.isEmpty && es.all (fun x => decide (x.born ≥ c))) = false := next_test_false _ es c c hR.born (Nat.le_refl _)
  have hmem : ∀ y ∈ Lf, y.born < c := fun y hy => by
    have : y ∈ T := hl.mem_iff.1 (Array.mem_toList_iff.2 hy)
    exact hR.born y (hp.mem_iff.1 (List.mem_append_right _ this))
  have e1 : Lf.filter (fun y => decide (y.born < c)) = Lf := Array.filter_eq_self.2 (fun y hy => by simpa using hmem y hy)
  have e2 : Lf.filter (fun y => decide (y.born ≥ c)) = #[] := by
    rw [Array.filter_eq_empty_iff]
    intro y hy
    have := hmem y hy
    simp
    omega
  rcases Nat.eq_zero_or_pos Lf.size with h2 | h2
  · have hLe : Lf = #[] := Array.eq_empty_of_size_eq_zero h2
    have hT0 : T = [] := by
      have h3 := hl.length_eq
      rw [hLe] at h3
      exact List.length_eq_zero_iff.1 h3.symm
    have ht0 : todo = [] := by
      rw [hT0] at hT
      exact List.map_eq_nil_iff.1 hT.symm
    subst ht0
    refine TL.op (w' := w) (fun ρ hρ => ?_) hd (h0 rfl w hF)
    simp only [execOp, hρ x _ hx, Instr.next, Sem.run_bind, run_getObj_o hr0 rfl, run_getObj_o hb rfl, Result.andThen_ok, htest, Bool.false_eq_true, if_false, hLd, e1, e2, hLe]
    simp [choose, Sem.run, Question.forced, Result.andThen]
  · have hne : Lf.isEmpty = false := by simp [Array.isEmpty]; intro h; rw [h] at h2; simp at h2
    obtain ⟨j, k, hj, hrun⟩ := run_choose (P := P) Lf.size h2 w
    have hmT : Lf[j] ∈ T := hl.mem_iff.1 (by simp)
    obtain ⟨T1, T2, t1, p, t2, rfl, rfl, h3, h4⟩ := perm_split hmT hT
    simp only [Prod.mk.injEq] at h3
    have hF1 := hF.exts (ext_drewN w k)
    have hr1 : (w.drewN k).heap[r]? = some (.mapIter (some b) c (E.map (·.born)).toArray c) := hr0
    have hrb : b ≠ r := fun e => by rw [e, hr0] at hb; cases hb
    refine TL.op (w' := (w.drewN k).putObj r (.mapIter (some b) c ((E.map (·.born)).toArray.push Lf[j].born) c)) (v := .tuple #[.bool true, f p.1, g p.2]) (fun ρ hρ => ?_) hd (h1 p (t1 ++ t2) _ List.perm_middle (hF1.putO hr1 rfl hr hfree ?_ ?_))
    · simp only [execOp, hρ x _ hx, Instr.next, Sem.run_bind, run_getObj_o hr0 rfl, run_getObj_o hb rfl, Result.andThen_ok, htest, Bool.false_eq_true, if_false, hLd, e1, e2, hne, Array.append_empty, Array.empty_append, Array.size_map, hrun, Array.getElem?_map, Array.getElem?_eq_getElem hj, Option.map_some, run_setObj_o _ hr1 rfl, h3.1, h3.2]
      rfl
    · unfold dpIt
      refine ⟨es, c, E ++ [Lf[j]], T1 ++ T2, ?_, hR, ?_, ?_, ?_, h4⟩
      · rw [World.putObj_heap_other hrb]; exact hb
      · rw [World.putObj_heap_same (Array.getElem?_eq_some_iff.1 hr1).1]
        simp
      · refine List.Perm.trans ?_ hp
        rw [List.append_assoc]
        exact List.Perm.append_left E (show (Lf[j] :: (T1 ++ T2)).Perm (T1 ++ Lf[j] :: T2) from List.perm_middle.symm)
      · simp [hE, h3.1, h3.2]
    · intro v hv hk
      exact hF.apart v hv _ (List.mem_cons_self ..) (by unfold dpIt at hk ⊢; exact hk)
theorem ev_entry (hF : Fr w0 w L D S) {p : K × V} (hm : dpIt f g r b l (done ++ [p]) todo ∈ D) {x : Operand} (hx : look σ x = some (.pointer (some ⟨r, 0, none⟩))) : Ev P σ w.heap ⟨do_, .entry x, t, pos, af, gd⟩ (.tuple #[f p.1, g p.2]) := by
  have hI := hF.data _ hm
  unfold dpIt at hI
  obtain ⟨es, c, E, T, hb, hR, hr0, hp, hE, hT⟩ := hI
  rw [List.map_append] at hE
  obtain ⟨E1, E2, rfl, h1, h2⟩ := List.map_eq_append_iff.1 hE
  obtain ⟨e, E3, rfl, h3, h4⟩ := List.map_eq_cons_iff.1 h2
  rw [List.map_eq_nil_iff.1 h4] at hp hr0
  simp only [Prod.mk.injEq] at h3
  have hm : e ∈ es.toList := hp.mem_iff.1 (by simp)
  have hf : es.find? (fun x => x.born == e.born) = some e := by rw [← Array.find?_toList]; exact find_born e es.toList hR.nodup hm
  unfold Ev
  intro ρ w1 hρ hw
  rw [← hw] at hb hr0
  have hbk : ((E1 ++ [e]).map (·.born)).toArray.back? = some e.born := by simp
  simp only [execOp, hρ x _ hx, Instr.entry, Sem.run_bind, run_getObj_o hr0 rfl, run_getObj_o hb rfl, Result.andThen_ok, hbk, bne_self_eq_false, Bool.false_eq_true, if_false, hf]
  simp [h3.1, h3.2]
end
attribute [irreducible] dpIt
end Go.Eng
namespace Go.Proofs.YtlpheckjogphmaaGreat
open Go Go.Eng Go.Proofs
instance : USize Tryz.prog 1 (.nilFunc) 1 8 := ⟨by kernel_rfl⟩
instance : UOne Tryz.prog 1 := ⟨⟨_, Tryz.underlying1, rfl⟩⟩
instance : USize Tryz.prog 2 (.int .i64 0) 1 8 := ⟨by kernel_rfl⟩
instance : UInt Tryz.prog 2 .i64 := ⟨Tryz.underlying2⟩
instance : UOne Tryz.prog 2 := ⟨⟨_, Tryz.underlying2, rfl⟩⟩
instance : USize Tryz.prog 3 (.int .i64 0) 1 8 := ⟨by kernel_rfl⟩
instance : UInt Tryz.prog 3 .i64 := ⟨Tryz.underlying3⟩
instance : UOne Tryz.prog 3 := ⟨⟨_, Tryz.underlying3, rfl⟩⟩
instance : USize Tryz.prog 4 (.bool false) 1 1 := ⟨by kernel_rfl⟩
instance : UBool Tryz.prog 4 := ⟨Tryz.underlying4⟩
instance : UOne Tryz.prog 4 := ⟨⟨_, Tryz.underlying4, rfl⟩⟩
instance : USize Tryz.prog 5 (.int .u8 0) 1 1 := ⟨by kernel_rfl⟩
instance : UInt Tryz.prog 5 .u8 := ⟨Tryz.underlying5⟩
instance : UOne Tryz.prog 5 := ⟨⟨_, Tryz.underlying5, rfl⟩⟩
instance : USize Tryz.prog 6 (.int .u8 0) 1 1 := ⟨by kernel_rfl⟩
instance : UInt Tryz.prog 6 .u8 := ⟨Tryz.underlying6⟩
instance : UOne Tryz.prog 6 := ⟨⟨_, Tryz.underlying6, rfl⟩⟩
instance : USize Tryz.prog 7 (.agg #[.int .i64 0, .int .i64 0, .bool false, .int .u8 0]) 4 24 := ⟨by kernel_rfl⟩
instance : UAgg Tryz.prog 7 := ⟨⟨_, Tryz.underlying7⟩⟩
instance : UField Tryz.prog 7 0 2 0 := ⟨⟨_, _, Tryz.underlying7, rfl, rfl, rfl, by kernel_rfl⟩⟩
instance : UField Tryz.prog 7 1 3 1 := ⟨⟨_, _, Tryz.underlying7, rfl, rfl, rfl, by kernel_rfl⟩⟩
instance : UField Tryz.prog 7 2 4 2 := ⟨⟨_, _, Tryz.underlying7, rfl, rfl, rfl, by kernel_rfl⟩⟩
instance : UField Tryz.prog 7 3 6 3 := ⟨⟨_, _, Tryz.underlying7, rfl, rfl, rfl, by kernel_rfl⟩⟩
instance : USize Tryz.prog 8 (.agg #[.int .i64 0, .int .i64 0, .bool false, .int .u8 0]) 4 24 := ⟨by kernel_rfl⟩
instance : UAgg Tryz.prog 8 := ⟨⟨_, Tryz.underlying8⟩⟩
instance : UField Tryz.prog 8 0 2 0 := ⟨⟨_, _, Tryz.underlying8, rfl, rfl, rfl, by kernel_rfl⟩⟩
instance : UField Tryz.prog 8 1 3 1 := ⟨⟨_, _, Tryz.underlying8, rfl, rfl, rfl, by kernel_rfl⟩⟩
instance : UField Tryz.prog 8 2 4 2 := ⟨⟨_, _, Tryz.underlying8, rfl, rfl, rfl, by kernel_rfl⟩⟩
instance : UField Tryz.prog 8 3 6 3 := ⟨⟨_, _, Tryz.underlying8, rfl, rfl, rfl, by kernel_rfl⟩⟩
instance : USize Tryz.prog 9 (.string ⟨#[]⟩) 1 16 := ⟨by kernel_rfl⟩
instance : UOne Tryz.prog 9 := ⟨⟨_, Tryz.underlying9, rfl⟩⟩
instance : USize Tryz.prog 10 (.string ⟨#[]⟩) 1 16 := ⟨by kernel_rfl⟩
instance : UOne Tryz.prog 10 := ⟨⟨_, Tryz.underlying10, rfl⟩⟩
instance : USize Tryz.prog 11 (.string ⟨#[]⟩) 1 16 := ⟨by kernel_rfl⟩
instance : UOne Tryz.prog 11 := ⟨⟨_, Tryz.underlying11, rfl⟩⟩
instance : USize Tryz.prog 12 (.int .u64 0) 1 8 := ⟨by kernel_rfl⟩
instance : UInt Tryz.prog 12 .u64 := ⟨Tryz.underlying12⟩
instance : UOne Tryz.prog 12 := ⟨⟨_, Tryz.underlying12, rfl⟩⟩
instance : USize Tryz.prog 13 (.agg #[.string ⟨#[]⟩, .int .u64 0]) 2 24 := ⟨by kernel_rfl⟩
instance : UAgg Tryz.prog 13 := ⟨⟨_, Tryz.underlying13⟩⟩
instance : UField Tryz.prog 13 0 9 0 := ⟨⟨_, _, Tryz.underlying13, rfl, rfl, rfl, by kernel_rfl⟩⟩
instance : UField Tryz.prog 13 1 12 1 := ⟨⟨_, _, Tryz.underlying13, rfl, rfl, rfl, by kernel_rfl⟩⟩
instance : USize Tryz.prog 14 (.agg #[.string ⟨#[]⟩, .int .u64 0]) 2 24 := ⟨by kernel_rfl⟩
instance : UAgg Tryz.prog 14 := ⟨⟨_, Tryz.underlying14⟩⟩
instance : UField Tryz.prog 14 0 9 0 := ⟨⟨_, _, Tryz.underlying14, rfl, rfl, rfl, by kernel_rfl⟩⟩
instance : UField Tryz.prog 14 1 12 1 := ⟨⟨_, _, Tryz.underlying14, rfl, rfl, rfl, by kernel_rfl⟩⟩
instance : USize Tryz.prog 15 (.pointer none) 1 8 := ⟨by kernel_rfl⟩
instance : UOne Tryz.prog 15 := ⟨⟨_, Tryz.underlying15, rfl⟩⟩
instance : USize Tryz.prog 16 (.pointer none) 1 8 := ⟨by kernel_rfl⟩
instance : UOne Tryz.prog 16 := ⟨⟨_, Tryz.underlying16, rfl⟩⟩
instance : USize Tryz.prog 17 (.pointer none) 1 8 := ⟨by kernel_rfl⟩
instance : UOne Tryz.prog 17 := ⟨⟨_, Tryz.underlying17, rfl⟩⟩
instance : USize Tryz.prog 18 (.agg #[.pointer none]) 1 8 := ⟨by kernel_rfl⟩
instance : UAgg Tryz.prog 18 := ⟨⟨_, Tryz.underlying18⟩⟩
instance : UField Tryz.prog 18 0 17 0 := ⟨⟨_, _, Tryz.underlying18, rfl, rfl, rfl, by kernel_rfl⟩⟩
instance : USize Tryz.prog 19 (.agg #[.pointer none]) 1 8 := ⟨by kernel_rfl⟩
instance : UAgg Tryz.prog 19 := ⟨⟨_, Tryz.underlying19⟩⟩
instance : UField Tryz.prog 19 0 17 0 := ⟨⟨_, _, Tryz.underlying19, rfl, rfl, rfl, by kernel_rfl⟩⟩
instance : USize Tryz.prog 20 (.nilIface) 1 16 := ⟨by kernel_rfl⟩
instance : UOne Tryz.prog 20 := ⟨⟨_, Tryz.underlying20, rfl⟩⟩
instance : USize Tryz.prog 21 (.int .i32 0) 1 4 := ⟨by kernel_rfl⟩
instance : UInt Tryz.prog 21 .i32 := ⟨Tryz.underlying21⟩
instance : UOne Tryz.prog 21 := ⟨⟨_, Tryz.underlying21, rfl⟩⟩
instance : USize Tryz.prog 22 (.slice none 0 0) 1 24 := ⟨by kernel_rfl⟩
instance : USlice Tryz.prog 22 27 := ⟨Tryz.underlying22⟩
instance : UOne Tryz.prog 22 := ⟨⟨_, Tryz.underlying22, rfl⟩⟩
instance : USize Tryz.prog 23 (.agg #[.int .i64 0, .int .i64 0, .slice none 0 0]) 3 40 := ⟨by kernel_rfl⟩
instance : UAgg Tryz.prog 23 := ⟨⟨_, Tryz.underlying23⟩⟩
instance : UField Tryz.prog 23 0 3 0 := ⟨⟨_, _, Tryz.underlying23, rfl, rfl, rfl, by kernel_rfl⟩⟩
instance : UField Tryz.prog 23 1 3 1 := ⟨⟨_, _, Tryz.underlying23, rfl, rfl, rfl, by kernel_rfl⟩⟩
instance : UField Tryz.prog 23 2 22 2 := ⟨⟨_, _, Tryz.underlying23, rfl, rfl, rfl, by kernel_rfl⟩⟩
instance : USize Tryz.prog 24 (.agg #[.int .i64 0, .int .i64 0, .slice none 0 0]) 3 40 := ⟨by kernel_rfl⟩
instance : UAgg Tryz.prog 24 := ⟨⟨_, Tryz.underlying24⟩⟩
instance : UField Tryz.prog 24 0 3 0 := ⟨⟨_, _, Tryz.underlying24, rfl, rfl, rfl, by kernel_rfl⟩⟩
instance : UField Tryz.prog 24 1 3 1 := ⟨⟨_, _, Tryz.underlying24, rfl, rfl, rfl, by kernel_rfl⟩⟩
instance : UField Tryz.prog 24 2 22 2 := ⟨⟨_, _, Tryz.underlying24, rfl, rfl, rfl, by kernel_rfl⟩⟩
instance : USize Tryz.prog 25 (.slice none 0 0) 1 24 := ⟨by kernel_rfl⟩
instance : USlice Tryz.prog 25 64 := ⟨Tryz.underlying25⟩
instance : UOne Tryz.prog 25 := ⟨⟨_, Tryz.underlying25, rfl⟩⟩
instance : USize Tryz.prog 26 (.agg #[.bool false, .slice none 0 0]) 2 32 := ⟨by kernel_rfl⟩
instance : UAgg Tryz.prog 26 := ⟨⟨_, Tryz.underlying26⟩⟩
instance : UField Tryz.prog 26 0 4 0 := ⟨⟨_, _, Tryz.underlying26, rfl, rfl, rfl, by kernel_rfl⟩⟩
instance : UField Tryz.prog 26 1 25 1 := ⟨⟨_, _, Tryz.underlying26, rfl, rfl, rfl, by kernel_rfl⟩⟩
instance : USize Tryz.prog 27 (.agg #[.bool false, .slice none 0 0]) 2 32 := ⟨by kernel_rfl⟩
instance : UAgg Tryz.prog 27 := ⟨⟨_, Tryz.underlying27⟩⟩
instance : UField Tryz.prog 27 0 4 0 := ⟨⟨_, _, Tryz.underlying27, rfl, rfl, rfl, by kernel_rfl⟩⟩
instance : UField Tryz.prog 27 1 25 1 := ⟨⟨_, _, Tryz.underlying27, rfl, rfl, rfl, by kernel_rfl⟩⟩
instance : USize Tryz.prog 28 (.nilFunc) 1 8 := ⟨by kernel_rfl⟩
instance : UOne Tryz.prog 28 := ⟨⟨_, Tryz.underlying28, rfl⟩⟩
instance : USize Tryz.prog 29 (.int .i64 0) 1 8 := ⟨by kernel_rfl⟩
instance : UInt Tryz.prog 29 .i64 := ⟨Tryz.underlying29⟩
instance : UOne Tryz.prog 29 := ⟨⟨_, Tryz.underlying29, rfl⟩⟩
instance : USize Tryz.prog 31 (.nilFunc) 1 8 := ⟨by kernel_rfl⟩
instance : UOne Tryz.prog 31 := ⟨⟨_, Tryz.underlying31, rfl⟩⟩
instance : USize Tryz.prog 32 (.nilFunc) 1 8 := ⟨by kernel_rfl⟩
instance : UOne Tryz.prog 32 := ⟨⟨_, Tryz.underlying32, rfl⟩⟩
instance : USize Tryz.prog 33 (.nilFunc) 1 8 := ⟨by kernel_rfl⟩
instance : UOne Tryz.prog 33 := ⟨⟨_, Tryz.underlying33, rfl⟩⟩
instance : USize Tryz.prog 34 (.pointer none) 1 8 := ⟨by kernel_rfl⟩
instance : UOne Tryz.prog 34 := ⟨⟨_, Tryz.underlying34, rfl⟩⟩
instance : USize Tryz.prog 36 (.nilFunc) 1 8 := ⟨by kernel_rfl⟩
instance : UOne Tryz.prog 36 := ⟨⟨_, Tryz.underlying36, rfl⟩⟩
instance : USize Tryz.prog 37 (.nilFunc) 1 8 := ⟨by kernel_rfl⟩
instance : UOne Tryz.prog 37 := ⟨⟨_, Tryz.underlying37, rfl⟩⟩
instance : USize Tryz.prog 38 (.nilFunc) 1 8 := ⟨by kernel_rfl⟩
instance : UOne Tryz.prog 38 := ⟨⟨_, Tryz.underlying38, rfl⟩⟩
instance : USize Tryz.prog 39 (.nilFunc) 1 8 := ⟨by kernel_rfl⟩
instance : UOne Tryz.prog 39 := ⟨⟨_, Tryz.underlying39, rfl⟩⟩
instance : USize Tryz.prog 40 (.nilFunc) 1 8 := ⟨by kernel_rfl⟩
instance : UOne Tryz.prog 40 := ⟨⟨_, Tryz.underlying40, rfl⟩⟩
instance : USize Tryz.prog 42 (.nilFunc) 1 8 := ⟨by kernel_rfl⟩
instance : UOne Tryz.prog 42 := ⟨⟨_, Tryz.underlying42, rfl⟩⟩
instance : USize Tryz.prog 43 (.agg #[.int .i64 0, .int .i64 0, .int .i64 0, .bool false, .slice none 0 0]) 5 56 := ⟨by kernel_rfl⟩
instance : UAgg Tryz.prog 43 := ⟨⟨_, Tryz.underlying43⟩⟩
instance : UField Tryz.prog 43 0 3 0 := ⟨⟨_, _, Tryz.underlying43, rfl, rfl, rfl, by kernel_rfl⟩⟩
instance : UField Tryz.prog 43 1 3 1 := ⟨⟨_, _, Tryz.underlying43, rfl, rfl, rfl, by kernel_rfl⟩⟩
instance : UField Tryz.prog 43 2 3 2 := ⟨⟨_, _, Tryz.underlying43, rfl, rfl, rfl, by kernel_rfl⟩⟩
instance : UField Tryz.prog 43 3 27 3 := ⟨⟨_, _, Tryz.underlying43, rfl, rfl, rfl, by kernel_rfl⟩⟩
instance : USize Tryz.prog 44 (.agg #[.int .i64 0, .int .i64 0, .int .i64 0, .bool false, .slice none 0 0]) 5 56 := ⟨by kernel_rfl⟩
instance : UAgg Tryz.prog 44 := ⟨⟨_, Tryz.underlying44⟩⟩
instance : UField Tryz.prog 44 0 3 0 := ⟨⟨_, _, Tryz.underlying44, rfl, rfl, rfl, by kernel_rfl⟩⟩
instance : UField Tryz.prog 44 1 3 1 := ⟨⟨_, _, Tryz.underlying44, rfl, rfl, rfl, by kernel_rfl⟩⟩
instance : UField Tryz.prog 44 2 3 2 := ⟨⟨_, _, Tryz.underlying44, rfl, rfl, rfl, by kernel_rfl⟩⟩
instance : UField Tryz.prog 44 3 27 3 := ⟨⟨_, _, Tryz.underlying44, rfl, rfl, rfl, by kernel_rfl⟩⟩
instance : USize Tryz.prog 45 (.nilFunc) 1 8 := ⟨by kernel_rfl⟩
instance : UOne Tryz.prog 45 := ⟨⟨_, Tryz.underlying45, rfl⟩⟩
instance : USize Tryz.prog 46 (.slice none 0 0) 1 24 := ⟨by kernel_rfl⟩
instance : USlice Tryz.prog 46 57 := ⟨Tryz.underlying46⟩
instance : UOne Tryz.prog 46 := ⟨⟨_, Tryz.underlying46, rfl⟩⟩
instance : USize Tryz.prog 47 (.nilFunc) 1 8 := ⟨by kernel_rfl⟩
instance : UOne Tryz.prog 47 := ⟨⟨_, Tryz.underlying47, rfl⟩⟩
instance : USize Tryz.prog 48 (.nilFunc) 1 8 := ⟨by kernel_rfl⟩
instance : UOne Tryz.prog 48 := ⟨⟨_, Tryz.underlying48, rfl⟩⟩
instance : USize Tryz.prog 49 (.nilFunc) 1 8 := ⟨by kernel_rfl⟩
instance : UOne Tryz.prog 49 := ⟨⟨_, Tryz.underlying49, rfl⟩⟩
instance : USize Tryz.prog 50 (.slice none 0 0) 1 24 := ⟨by kernel_rfl⟩
instance : USlice Tryz.prog 50 25 := ⟨Tryz.underlying50⟩
instance : UOne Tryz.prog 50 := ⟨⟨_, Tryz.underlying50, rfl⟩⟩
instance : USize Tryz.prog 51 (.slice none 0 0) 1 24 := ⟨by kernel_rfl⟩
instance : USlice Tryz.prog 51 22 := ⟨Tryz.underlying51⟩
instance : UOne Tryz.prog 51 := ⟨⟨_, Tryz.underlying51, rfl⟩⟩
instance : USize Tryz.prog 52 (.slice none 0 0) 1 24 := ⟨by kernel_rfl⟩
instance : USlice Tryz.prog 52 91 := ⟨Tryz.underlying52⟩
instance : UOne Tryz.prog 52 := ⟨⟨_, Tryz.underlying52, rfl⟩⟩
instance : USize Tryz.prog 53 (.agg #[.slice none 0 0, .slice none 0 0, .slice none 0 0]) 3 72 := ⟨by kernel_rfl⟩
instance : UAgg Tryz.prog 53 := ⟨⟨_, Tryz.underlying53⟩⟩
instance : UField Tryz.prog 53 0 50 0 := ⟨⟨_, _, Tryz.underlying53, rfl, rfl, rfl, by kernel_rfl⟩⟩
instance : UField Tryz.prog 53 1 51 1 := ⟨⟨_, _, Tryz.underlying53, rfl, rfl, rfl, by kernel_rfl⟩⟩
instance : UField Tryz.prog 53 2 52 2 := ⟨⟨_, _, Tryz.underlying53, rfl, rfl, rfl, by kernel_rfl⟩⟩
instance : USize Tryz.prog 54 (.agg #[.slice none 0 0, .slice none 0 0, .slice none 0 0]) 3 72 := ⟨by kernel_rfl⟩
instance : UAgg Tryz.prog 54 := ⟨⟨_, Tryz.underlying54⟩⟩
instance : UField Tryz.prog 54 0 50 0 := ⟨⟨_, _, Tryz.underlying54, rfl, rfl, rfl, by kernel_rfl⟩⟩
instance : UField Tryz.prog 54 1 51 1 := ⟨⟨_, _, Tryz.underlying54, rfl, rfl, rfl, by kernel_rfl⟩⟩
instance : UField Tryz.prog 54 2 52 2 := ⟨⟨_, _, Tryz.underlying54, rfl, rfl, rfl, by kernel_rfl⟩⟩
instance : USize Tryz.prog 55 (.nilFunc) 1 8 := ⟨by kernel_rfl⟩
instance : UOne Tryz.prog 55 := ⟨⟨_, Tryz.underlying55, rfl⟩⟩
instance : USize Tryz.prog 56 (.agg #[.int .i64 0, .int .i64 0, .bool false, .slice none 0 0]) 4 48 := ⟨by kernel_rfl⟩
instance : UAgg Tryz.prog 56 := ⟨⟨_, Tryz.underlying56⟩⟩
instance : UField Tryz.prog 56 0 3 0 := ⟨⟨_, _, Tryz.underlying56, rfl, rfl, rfl, by kernel_rfl⟩⟩
instance : UField Tryz.prog 56 1 3 1 := ⟨⟨_, _, Tryz.underlying56, rfl, rfl, rfl, by kernel_rfl⟩⟩
instance : UField Tryz.prog 56 2 27 2 := ⟨⟨_, _, Tryz.underlying56, rfl, rfl, rfl, by kernel_rfl⟩⟩
instance : USize Tryz.prog 57 (.agg #[.int .i64 0, .int .i64 0, .bool false, .slice none 0 0]) 4 48 := ⟨by kernel_rfl⟩
instance : UAgg Tryz.prog 57 := ⟨⟨_, Tryz.underlying57⟩⟩
instance : UField Tryz.prog 57 0 3 0 := ⟨⟨_, _, Tryz.underlying57, rfl, rfl, rfl, by kernel_rfl⟩⟩
instance : UField Tryz.prog 57 1 3 1 := ⟨⟨_, _, Tryz.underlying57, rfl, rfl, rfl, by kernel_rfl⟩⟩
instance : UField Tryz.prog 57 2 27 2 := ⟨⟨_, _, Tryz.underlying57, rfl, rfl, rfl, by kernel_rfl⟩⟩
instance : USize Tryz.prog 59 (.nilFunc) 1 8 := ⟨by kernel_rfl⟩
instance : UOne Tryz.prog 59 := ⟨⟨_, Tryz.underlying59, rfl⟩⟩
instance : USize Tryz.prog 60 (.nilFunc) 1 8 := ⟨by kernel_rfl⟩
instance : UOne Tryz.prog 60 := ⟨⟨_, Tryz.underlying60, rfl⟩⟩
instance : USize Tryz.prog 61 (.slice none 0 0) 1 24 := ⟨by kernel_rfl⟩
instance : USlice Tryz.prog 61 46 := ⟨Tryz.underlying61⟩
instance : UOne Tryz.prog 61 := ⟨⟨_, Tryz.underlying61, rfl⟩⟩
instance : USize Tryz.prog 62 (.nilFunc) 1 8 := ⟨by kernel_rfl⟩
instance : UOne Tryz.prog 62 := ⟨⟨_, Tryz.underlying62, rfl⟩⟩
instance : USize Tryz.prog 63 (.nilFunc) 1 8 := ⟨by kernel_rfl⟩
instance : UOne Tryz.prog 63 := ⟨⟨_, Tryz.underlying63, rfl⟩⟩
instance : USize Tryz.prog 64 (.int .u64 0) 1 8 := ⟨by kernel_rfl⟩
instance : UInt Tryz.prog 64 .u64 := ⟨Tryz.underlying64⟩
instance : UOne Tryz.prog 64 := ⟨⟨_, Tryz.underlying64, rfl⟩⟩
instance : USize Tryz.prog 65 (.nilFunc) 1 8 := ⟨by kernel_rfl⟩
instance : UOne Tryz.prog 65 := ⟨⟨_, Tryz.underlying65, rfl⟩⟩
instance : USize Tryz.prog 66 (.nilFunc) 1 8 := ⟨by kernel_rfl⟩
instance : UOne Tryz.prog 66 := ⟨⟨_, Tryz.underlying66, rfl⟩⟩
instance : USize Tryz.prog 67 (.nilFunc) 1 8 := ⟨by kernel_rfl⟩
instance : UOne Tryz.prog 67 := ⟨⟨_, Tryz.underlying67, rfl⟩⟩
instance : USize Tryz.prog 68 (.nilFunc) 1 8 := ⟨by kernel_rfl⟩
instance : UOne Tryz.prog 68 := ⟨⟨_, Tryz.underlying68, rfl⟩⟩
instance : USize Tryz.prog 69 (.nilFunc) 1 8 := ⟨by kernel_rfl⟩
instance : UOne Tryz.prog 69 := ⟨⟨_, Tryz.underlying69, rfl⟩⟩
instance : USize Tryz.prog 70 (.nilFunc) 1 8 := ⟨by kernel_rfl⟩
instance : UOne Tryz.prog 70 := ⟨⟨_, Tryz.underlying70, rfl⟩⟩
instance : USize Tryz.prog 71 (.nilFunc) 1 8 := ⟨by kernel_rfl⟩
instance : UOne Tryz.prog 71 := ⟨⟨_, Tryz.underlying71, rfl⟩⟩
instance : USize Tryz.prog 72 (.nilFunc) 1 8 := ⟨by kernel_rfl⟩
instance : UOne Tryz.prog 72 := ⟨⟨_, Tryz.underlying72, rfl⟩⟩
instance : USize Tryz.prog 73 (.nilFunc) 1 8 := ⟨by kernel_rfl⟩
instance : UOne Tryz.prog 73 := ⟨⟨_, Tryz.underlying73, rfl⟩⟩
instance : USize Tryz.prog 74 (.nilFunc) 1 8 := ⟨by kernel_rfl⟩
instance : UOne Tryz.prog 74 := ⟨⟨_, Tryz.underlying74, rfl⟩⟩
instance : USize Tryz.prog 75 (.nilFunc) 1 8 := ⟨by kernel_rfl⟩
instance : UOne Tryz.prog 75 := ⟨⟨_, Tryz.underlying75, rfl⟩⟩
instance : USize Tryz.prog 76 (.nilFunc) 1 8 := ⟨by kernel_rfl⟩
instance : UOne Tryz.prog 76 := ⟨⟨_, Tryz.underlying76, rfl⟩⟩
instance : USize Tryz.prog 77 (.agg #[.int .i64 0, .int .i64 0]) 2 16 := ⟨by kernel_rfl⟩
instance : UAgg Tryz.prog 77 := ⟨⟨_, Tryz.underlying77⟩⟩
instance : UField Tryz.prog 77 0 3 0 := ⟨⟨_, _, Tryz.underlying77, rfl, rfl, rfl, by kernel_rfl⟩⟩
instance : UField Tryz.prog 77 1 3 1 := ⟨⟨_, _, Tryz.underlying77, rfl, rfl, rfl, by kernel_rfl⟩⟩
instance : USize Tryz.prog 78 (.agg #[.int .i64 0, .int .i64 0]) 2 16 := ⟨by kernel_rfl⟩
instance : UAgg Tryz.prog 78 := ⟨⟨_, Tryz.underlying78⟩⟩
instance : UField Tryz.prog 78 0 3 0 := ⟨⟨_, _, Tryz.underlying78, rfl, rfl, rfl, by kernel_rfl⟩⟩
instance : UField Tryz.prog 78 1 3 1 := ⟨⟨_, _, Tryz.underlying78, rfl, rfl, rfl, by kernel_rfl⟩⟩
instance : USize Tryz.prog 79 (.nilFunc) 1 8 := ⟨by kernel_rfl⟩
instance : UOne Tryz.prog 79 := ⟨⟨_, Tryz.underlying79, rfl⟩⟩
instance : USize Tryz.prog 80 (.nilFunc) 1 8 := ⟨by kernel_rfl⟩
instance : UOne Tryz.prog 80 := ⟨⟨_, Tryz.underlying80, rfl⟩⟩
instance : USize Tryz.prog 81 (.nilFunc) 1 8 := ⟨by kernel_rfl⟩
instance : UOne Tryz.prog 81 := ⟨⟨_, Tryz.underlying81, rfl⟩⟩
instance : USize Tryz.prog 82 (.map none) 1 8 := ⟨by kernel_rfl⟩
instance : UOne Tryz.prog 82 := ⟨⟨_, Tryz.underlying82, rfl⟩⟩
instance : USize Tryz.prog 83 (.agg #[.int .i64 0, .int .i64 0, .map none]) 3 24 := ⟨by kernel_rfl⟩
instance : UAgg Tryz.prog 83 := ⟨⟨_, Tryz.underlying83⟩⟩
instance : UField Tryz.prog 83 0 3 0 := ⟨⟨_, _, Tryz.underlying83, rfl, rfl, rfl, by kernel_rfl⟩⟩
instance : UField Tryz.prog 83 1 3 1 := ⟨⟨_, _, Tryz.underlying83, rfl, rfl, rfl, by kernel_rfl⟩⟩
instance : UField Tryz.prog 83 2 82 2 := ⟨⟨_, _, Tryz.underlying83, rfl, rfl, rfl, by kernel_rfl⟩⟩
instance : USize Tryz.prog 84 (.agg #[.int .i64 0, .int .i64 0, .map none]) 3 24 := ⟨by kernel_rfl⟩
instance : UAgg Tryz.prog 84 := ⟨⟨_, Tryz.underlying84⟩⟩
instance : UField Tryz.prog 84 0 3 0 := ⟨⟨_, _, Tryz.underlying84, rfl, rfl, rfl, by kernel_rfl⟩⟩
instance : UField Tryz.prog 84 1 3 1 := ⟨⟨_, _, Tryz.underlying84, rfl, rfl, rfl, by kernel_rfl⟩⟩
instance : UField Tryz.prog 84 2 82 2 := ⟨⟨_, _, Tryz.underlying84, rfl, rfl, rfl, by kernel_rfl⟩⟩
instance : USize Tryz.prog 86 (.nilFunc) 1 8 := ⟨by kernel_rfl⟩
instance : UOne Tryz.prog 86 := ⟨⟨_, Tryz.underlying86, rfl⟩⟩
instance : USize Tryz.prog 87 (.nilFunc) 1 8 := ⟨by kernel_rfl⟩
instance : UOne Tryz.prog 87 := ⟨⟨_, Tryz.underlying87, rfl⟩⟩
instance : USize Tryz.prog 88 (.nilFunc) 1 8 := ⟨by kernel_rfl⟩
instance : UOne Tryz.prog 88 := ⟨⟨_, Tryz.underlying88, rfl⟩⟩
instance : USize Tryz.prog 89 (.nilFunc) 1 8 := ⟨by kernel_rfl⟩
instance : UOne Tryz.prog 89 := ⟨⟨_, Tryz.underlying89, rfl⟩⟩
instance : USize Tryz.prog 90 (.nilFunc) 1 8 := ⟨by kernel_rfl⟩
instance : UOne Tryz.prog 90 := ⟨⟨_, Tryz.underlying90, rfl⟩⟩
instance : USize Tryz.prog 91 (.slice none 0 0) 1 24 := ⟨by kernel_rfl⟩
instance : USlice Tryz.prog 91 3 := ⟨Tryz.underlying91⟩
instance : UOne Tryz.prog 91 := ⟨⟨_, Tryz.underlying91, rfl⟩⟩
instance : USize Tryz.prog 92 (.nilFunc) 1 8 := ⟨by kernel_rfl⟩
instance : UOne Tryz.prog 92 := ⟨⟨_, Tryz.underlying92, rfl⟩⟩
instance : USize Tryz.prog 93 (.nilFunc) 1 8 := ⟨by kernel_rfl⟩
instance : UOne Tryz.prog 93 := ⟨⟨_, Tryz.underlying93, rfl⟩⟩
instance : USize Tryz.prog 94 (.nilFunc) 1 8 := ⟨by kernel_rfl⟩
instance : UOne Tryz.prog 94 := ⟨⟨_, Tryz.underlying94, rfl⟩⟩
instance : USize Tryz.prog 95 (.nilFunc) 1 8 := ⟨by kernel_rfl⟩
instance : UOne Tryz.prog 95 := ⟨⟨_, Tryz.underlying95, rfl⟩⟩
instance : USize Tryz.prog 96 (.nilFunc) 1 8 := ⟨by kernel_rfl⟩
instance : UOne Tryz.prog 96 := ⟨⟨_, Tryz.underlying96, rfl⟩⟩
instance : USize Tryz.prog 97 (.nilFunc) 1 8 := ⟨by kernel_rfl⟩
instance : UOne Tryz.prog 97 := ⟨⟨_, Tryz.underlying97, rfl⟩⟩
instance : USize Tryz.prog 98 (.pointer none) 1 8 := ⟨by kernel_rfl⟩
instance : UOne Tryz.prog 98 := ⟨⟨_, Tryz.underlying98, rfl⟩⟩
instance : USize Tryz.prog 99 (.nilFunc) 1 8 := ⟨by kernel_rfl⟩
instance : UOne Tryz.prog 99 := ⟨⟨_, Tryz.underlying99, rfl⟩⟩
instance : USize Tryz.prog 100 (.nilFunc) 1 8 := ⟨by kernel_rfl⟩
instance : UOne Tryz.prog 100 := ⟨⟨_, Tryz.underlying100, rfl⟩⟩
instance : USize Tryz.prog 101 (.nilFunc) 1 8 := ⟨by kernel_rfl⟩
instance : UOne Tryz.prog 101 := ⟨⟨_, Tryz.underlying101, rfl⟩⟩
instance : USize Tryz.prog 102 (.nilFunc) 1 8 := ⟨by kernel_rfl⟩
instance : UOne Tryz.prog 102 := ⟨⟨_, Tryz.underlying102, rfl⟩⟩
instance : USize Tryz.prog 103 (.nilFunc) 1 8 := ⟨by kernel_rfl⟩
instance : UOne Tryz.prog 103 := ⟨⟨_, Tryz.underlying103, rfl⟩⟩
instance : USize Tryz.prog 104 (.nilFunc) 1 8 := ⟨by kernel_rfl⟩
instance : UOne Tryz.prog 104 := ⟨⟨_, Tryz.underlying104, rfl⟩⟩
instance : USize Tryz.prog 105 (.nilFunc) 1 8 := ⟨by kernel_rfl⟩
instance : UOne Tryz.prog 105 := ⟨⟨_, Tryz.underlying105, rfl⟩⟩
instance : USize Tryz.prog 106 (.nilFunc) 1 8 := ⟨by kernel_rfl⟩
instance : UOne Tryz.prog 106 := ⟨⟨_, Tryz.underlying106, rfl⟩⟩
instance : USize Tryz.prog 107 (.nilFunc) 1 8 := ⟨by kernel_rfl⟩
instance : UOne Tryz.prog 107 := ⟨⟨_, Tryz.underlying107, rfl⟩⟩
instance : USize Tryz.prog 108 (.nilFunc) 1 8 := ⟨by kernel_rfl⟩
instance : UOne Tryz.prog 108 := ⟨⟨_, Tryz.underlying108, rfl⟩⟩
instance : USize Tryz.prog 109 (.nilFunc) 1 8 := ⟨by kernel_rfl⟩
instance : UOne Tryz.prog 109 := ⟨⟨_, Tryz.underlying109, rfl⟩⟩
instance : USize Tryz.prog 110 (.nilFunc) 1 8 := ⟨by kernel_rfl⟩
instance : UOne Tryz.prog 110 := ⟨⟨_, Tryz.underlying110, rfl⟩⟩
instance : USize Tryz.prog 111 (.nilFunc) 1 8 := ⟨by kernel_rfl⟩
instance : UOne Tryz.prog 111 := ⟨⟨_, Tryz.underlying111, rfl⟩⟩
instance : USize Tryz.prog 112 (.nilFunc) 1 8 := ⟨by kernel_rfl⟩
instance : UOne Tryz.prog 112 := ⟨⟨_, Tryz.underlying112, rfl⟩⟩
instance : USize Tryz.prog 113 (.nilFunc) 1 8 := ⟨by kernel_rfl⟩
instance : UOne Tryz.prog 113 := ⟨⟨_, Tryz.underlying113, rfl⟩⟩
instance : USize Tryz.prog 114 (.int .u64 0) 1 8 := ⟨by kernel_rfl⟩
instance : UInt Tryz.prog 114 .u64 := ⟨Tryz.underlying114⟩
instance : UOne Tryz.prog 114 := ⟨⟨_, Tryz.underlying114, rfl⟩⟩
instance : USize Tryz.prog 115 (.nilFunc) 1 8 := ⟨by kernel_rfl⟩
instance : UOne Tryz.prog 115 := ⟨⟨_, Tryz.underlying115, rfl⟩⟩
instance : USize Tryz.prog 116 (.nilFunc) 1 8 := ⟨by kernel_rfl⟩
instance : UOne Tryz.prog 116 := ⟨⟨_, Tryz.underlying116, rfl⟩⟩
instance : USize Tryz.prog 117 (.nilFunc) 1 8 := ⟨by kernel_rfl⟩
instance : UOne Tryz.prog 117 := ⟨⟨_, Tryz.underlying117, rfl⟩⟩
instance : USize Tryz.prog 118 (.nilFunc) 1 8 := ⟨by kernel_rfl⟩
instance : UOne Tryz.prog 118 := ⟨⟨_, Tryz.underlying118, rfl⟩⟩
instance : USize Tryz.prog 120 (.nilFunc) 1 8 := ⟨by kernel_rfl⟩
instance : UOne Tryz.prog 120 := ⟨⟨_, Tryz.underlying120, rfl⟩⟩
instance : USize Tryz.prog 121 (.slice none 0 0) 1 24 := ⟨by kernel_rfl⟩
instance : USlice Tryz.prog 121 24 := ⟨Tryz.underlying121⟩
instance : UOne Tryz.prog 121 := ⟨⟨_, Tryz.underlying121, rfl⟩⟩
instance : USize Tryz.prog 122 (.nilFunc) 1 8 := ⟨by kernel_rfl⟩
instance : UOne Tryz.prog 122 := ⟨⟨_, Tryz.underlying122, rfl⟩⟩
instance : USize Tryz.prog 123 (.int .i64 0) 1 8 := ⟨by kernel_rfl⟩
instance : UInt Tryz.prog 123 .i64 := ⟨Tryz.underlying123⟩
instance : UOne Tryz.prog 123 := ⟨⟨_, Tryz.underlying123, rfl⟩⟩
instance : USize Tryz.prog 125 (.nilFunc) 1 8 := ⟨by kernel_rfl⟩
instance : UOne Tryz.prog 125 := ⟨⟨_, Tryz.underlying125, rfl⟩⟩
instance : USize Tryz.prog 126 (.nilFunc) 1 8 := ⟨by kernel_rfl⟩
instance : UOne Tryz.prog 126 := ⟨⟨_, Tryz.underlying126, rfl⟩⟩
instance : USize Tryz.prog 127 (.nilFunc) 1 8 := ⟨by kernel_rfl⟩
instance : UOne Tryz.prog 127 := ⟨⟨_, Tryz.underlying127, rfl⟩⟩
instance : USize Tryz.prog 129 (.nilFunc) 1 8 := ⟨by kernel_rfl⟩
instance : UOne Tryz.prog 129 := ⟨⟨_, Tryz.underlying129, rfl⟩⟩
instance : USize Tryz.prog 130 (.nilFunc) 1 8 := ⟨by kernel_rfl⟩
instance : UOne Tryz.prog 130 := ⟨⟨_, Tryz.underlying130, rfl⟩⟩
instance : USize Tryz.prog 131 (.int .u32 0) 1 4 := ⟨by kernel_rfl⟩
instance : UInt Tryz.prog 131 .u32 := ⟨Tryz.underlying131⟩
instance : UOne Tryz.prog 131 := ⟨⟨_, Tryz.underlying131, rfl⟩⟩
instance : USize Tryz.prog 133 (.nilFunc) 1 8 := ⟨by kernel_rfl⟩
instance : UOne Tryz.prog 133 := ⟨⟨_, Tryz.underlying133, rfl⟩⟩
instance : USize Tryz.prog 134 (.int .u64 0) 1 8 := ⟨by kernel_rfl⟩
instance : UInt Tryz.prog 134 .u64 := ⟨Tryz.underlying134⟩
instance : UOne Tryz.prog 134 := ⟨⟨_, Tryz.underlying134, rfl⟩⟩
instance : USize Tryz.prog 135 (.nilFunc) 1 8 := ⟨by kernel_rfl⟩
instance : UOne Tryz.prog 135 := ⟨⟨_, Tryz.underlying135, rfl⟩⟩
instance : USize Tryz.prog 136 (.nilFunc) 1 8 := ⟨by kernel_rfl⟩
instance : UOne Tryz.prog 136 := ⟨⟨_, Tryz.underlying136, rfl⟩⟩
instance : USize Tryz.prog 137 (.nilFunc) 1 8 := ⟨by kernel_rfl⟩
instance : UOne Tryz.prog 137 := ⟨⟨_, Tryz.underlying137, rfl⟩⟩
instance : USize Tryz.prog 138 (.pointer none) 1 8 := ⟨by kernel_rfl⟩
instance : UOne Tryz.prog 138 := ⟨⟨_, Tryz.underlying138, rfl⟩⟩
instance : USize Tryz.prog 139 (.nilFunc) 1 8 := ⟨by kernel_rfl⟩
instance : UOne Tryz.prog 139 := ⟨⟨_, Tryz.underlying139, rfl⟩⟩
instance : USize Tryz.prog 140 (.nilFunc) 1 8 := ⟨by kernel_rfl⟩
instance : UOne Tryz.prog 140 := ⟨⟨_, Tryz.underlying140, rfl⟩⟩
instance : USize Tryz.prog 141 (.nilFunc) 1 8 := ⟨by kernel_rfl⟩
instance : UOne Tryz.prog 141 := ⟨⟨_, Tryz.underlying141, rfl⟩⟩
instance : USize Tryz.prog 142 (.pointer none) 1 8 := ⟨by kernel_rfl⟩
instance : UOne Tryz.prog 142 := ⟨⟨_, Tryz.underlying142, rfl⟩⟩
instance : USize Tryz.prog 144 (.nilFunc) 1 8 := ⟨by kernel_rfl⟩
instance : UOne Tryz.prog 144 := ⟨⟨_, Tryz.underlying144, rfl⟩⟩
instance : USize Tryz.prog 145 (.nilFunc) 1 8 := ⟨by kernel_rfl⟩
instance : UOne Tryz.prog 145 := ⟨⟨_, Tryz.underlying145, rfl⟩⟩
instance : USize Tryz.prog 146 (.nilFunc) 1 8 := ⟨by kernel_rfl⟩
instance : UOne Tryz.prog 146 := ⟨⟨_, Tryz.underlying146, rfl⟩⟩
instance : USize Tryz.prog 147 (.agg #[.pointer none, .pointer none, .pointer none, .string ⟨#[]⟩]) 4 40 := ⟨by kernel_rfl⟩
instance : UAgg Tryz.prog 147 := ⟨⟨_, Tryz.underlying147⟩⟩
instance : UField Tryz.prog 147 0 17 0 := ⟨⟨_, _, Tryz.underlying147, rfl, rfl, rfl, by kernel_rfl⟩⟩
instance : UField Tryz.prog 147 1 17 1 := ⟨⟨_, _, Tryz.underlying147, rfl, rfl, rfl, by kernel_rfl⟩⟩
instance : UField Tryz.prog 147 2 17 2 := ⟨⟨_, _, Tryz.underlying147, rfl, rfl, rfl, by kernel_rfl⟩⟩
instance : UField Tryz.prog 147 3 9 3 := ⟨⟨_, _, Tryz.underlying147, rfl, rfl, rfl, by kernel_rfl⟩⟩
instance : USize Tryz.prog 148 (.agg #[.pointer none, .pointer none, .pointer none, .string ⟨#[]⟩]) 4 40 := ⟨by kernel_rfl⟩
instance : UAgg Tryz.prog 148 := ⟨⟨_, Tryz.underlying148⟩⟩
instance : UField Tryz.prog 148 0 17 0 := ⟨⟨_, _, Tryz.underlying148, rfl, rfl, rfl, by kernel_rfl⟩⟩
instance : UField Tryz.prog 148 1 17 1 := ⟨⟨_, _, Tryz.underlying148, rfl, rfl, rfl, by kernel_rfl⟩⟩
instance : UField Tryz.prog 148 2 17 2 := ⟨⟨_, _, Tryz.underlying148, rfl, rfl, rfl, by kernel_rfl⟩⟩
instance : UField Tryz.prog 148 3 9 3 := ⟨⟨_, _, Tryz.underlying148, rfl, rfl, rfl, by kernel_rfl⟩⟩
instance : USize Tryz.prog 149 (.agg #[]) 0 0 := ⟨by kernel_rfl⟩
instance : USize Tryz.prog 150 (.agg #[]) 0 0 := ⟨by kernel_rfl⟩
instance : UAgg Tryz.prog 150 := ⟨⟨_, Tryz.underlying150⟩⟩
instance : USize Tryz.prog 151 (.agg #[]) 0 0 := ⟨by kernel_rfl⟩
instance : UAgg Tryz.prog 151 := ⟨⟨_, Tryz.underlying151⟩⟩
instance : USize Tryz.prog 152 (.int .u8 0) 1 1 := ⟨by kernel_rfl⟩
instance : UInt Tryz.prog 152 .u8 := ⟨Tryz.underlying152⟩
instance : UOne Tryz.prog 152 := ⟨⟨_, Tryz.underlying152, rfl⟩⟩
instance : USize Tryz.prog 153 (.int .u8 0) 1 1 := ⟨by kernel_rfl⟩
instance : UInt Tryz.prog 153 .u8 := ⟨Tryz.underlying153⟩
instance : UOne Tryz.prog 153 := ⟨⟨_, Tryz.underlying153, rfl⟩⟩
instance : USize Tryz.prog 154 (.nilFunc) 1 8 := ⟨by kernel_rfl⟩
instance : UOne Tryz.prog 154 := ⟨⟨_, Tryz.underlying154, rfl⟩⟩
instance : USize Tryz.prog 155 (.pointer none) 1 8 := ⟨by kernel_rfl⟩
instance : UOne Tryz.prog 155 := ⟨⟨_, Tryz.underlying155, rfl⟩⟩
instance : USize Tryz.prog 156 (.int .i32 0) 1 4 := ⟨by kernel_rfl⟩
instance : UInt Tryz.prog 156 .i32 := ⟨Tryz.underlying156⟩
instance : UOne Tryz.prog 156 := ⟨⟨_, Tryz.underlying156, rfl⟩⟩
instance : USize Tryz.prog 157 (.int .i32 0) 1 4 := ⟨by kernel_rfl⟩
instance : UInt Tryz.prog 157 .i32 := ⟨Tryz.underlying157⟩
instance : UOne Tryz.prog 157 := ⟨⟨_, Tryz.underlying157, rfl⟩⟩
instance : USize Tryz.prog 158 (.agg #[.int .u64 0, .int .u64 0, .int .u32 0, .int .u8 0, .int .u8 0, .int .u8 0, .int .u8 0, .nilFunc, .pointer none, .int .i32 0, .int .i32 0]) 11 48 := ⟨by kernel_rfl⟩
instance : UAgg Tryz.prog 158 := ⟨⟨_, Tryz.underlying158⟩⟩
instance : UField Tryz.prog 158 0 12 0 := ⟨⟨_, _, Tryz.underlying158, rfl, rfl, rfl, by kernel_rfl⟩⟩
instance : UField Tryz.prog 158 1 12 1 := ⟨⟨_, _, Tryz.underlying158, rfl, rfl, rfl, by kernel_rfl⟩⟩
instance : UField Tryz.prog 158 2 131 2 := ⟨⟨_, _, Tryz.underlying158, rfl, rfl, rfl, by kernel_rfl⟩⟩
instance : UField Tryz.prog 158 3 152 3 := ⟨⟨_, _, Tryz.underlying158, rfl, rfl, rfl, by kernel_rfl⟩⟩
instance : UField Tryz.prog 158 4 5 4 := ⟨⟨_, _, Tryz.underlying158, rfl, rfl, rfl, by kernel_rfl⟩⟩
instance : UField Tryz.prog 158 5 5 5 := ⟨⟨_, _, Tryz.underlying158, rfl, rfl, rfl, by kernel_rfl⟩⟩
instance : UField Tryz.prog 158 6 153 6 := ⟨⟨_, _, Tryz.underlying158, rfl, rfl, rfl, by kernel_rfl⟩⟩
instance : UField Tryz.prog 158 7 154 7 := ⟨⟨_, _, Tryz.underlying158, rfl, rfl, rfl, by kernel_rfl⟩⟩
instance : UField Tryz.prog 158 8 155 8 := ⟨⟨_, _, Tryz.underlying158, rfl, rfl, rfl, by kernel_rfl⟩⟩
instance : UField Tryz.prog 158 9 156 9 := ⟨⟨_, _, Tryz.underlying158, rfl, rfl, rfl, by kernel_rfl⟩⟩
instance : UField Tryz.prog 158 10 157 10 := ⟨⟨_, _, Tryz.underlying158, rfl, rfl, rfl, by kernel_rfl⟩⟩
instance : USize Tryz.prog 159 (.agg #[.int .u64 0, .int .u64 0, .int .u32 0, .int .u8 0, .int .u8 0, .int .u8 0, .int .u8 0, .nilFunc, .pointer none, .int .i32 0, .int .i32 0]) 11 48 := ⟨by kernel_rfl⟩
instance : UAgg Tryz.prog 159 := ⟨⟨_, Tryz.underlying159⟩⟩
instance : UField Tryz.prog 159 0 12 0 := ⟨⟨_, _, Tryz.underlying159, rfl, rfl, rfl, by kernel_rfl⟩⟩
instance : UField Tryz.prog 159 1 12 1 := ⟨⟨_, _, Tryz.underlying159, rfl, rfl, rfl, by kernel_rfl⟩⟩
instance : UField Tryz.prog 159 2 131 2 := ⟨⟨_, _, Tryz.underlying159, rfl, rfl, rfl, by kernel_rfl⟩⟩
instance : UField Tryz.prog 159 3 152 3 := ⟨⟨_, _, Tryz.underlying159, rfl, rfl, rfl, by kernel_rfl⟩⟩
instance : UField Tryz.prog 159 4 5 4 := ⟨⟨_, _, Tryz.underlying159, rfl, rfl, rfl, by kernel_rfl⟩⟩
instance : UField Tryz.prog 159 5 5 5 := ⟨⟨_, _, Tryz.underlying159, rfl, rfl, rfl, by kernel_rfl⟩⟩
instance : UField Tryz.prog 159 6 153 6 := ⟨⟨_, _, Tryz.underlying159, rfl, rfl, rfl, by kernel_rfl⟩⟩
instance : UField Tryz.prog 159 7 154 7 := ⟨⟨_, _, Tryz.underlying159, rfl, rfl, rfl, by kernel_rfl⟩⟩
instance : UField Tryz.prog 159 8 155 8 := ⟨⟨_, _, Tryz.underlying159, rfl, rfl, rfl, by kernel_rfl⟩⟩
instance : UField Tryz.prog 159 9 156 9 := ⟨⟨_, _, Tryz.underlying159, rfl, rfl, rfl, by kernel_rfl⟩⟩
instance : UField Tryz.prog 159 10 157 10 := ⟨⟨_, _, Tryz.underlying159, rfl, rfl, rfl, by kernel_rfl⟩⟩
instance : USize Tryz.prog 160 (.pointer none) 1 8 := ⟨by kernel_rfl⟩
instance : IsFn Tryz.prog 3 := ⟨⟨_, Tryz.func3, by kernel_rfl, by kernel_rfl⟩⟩
instance : IsFn Tryz.prog 4 := ⟨⟨_, Tryz.func4, by kernel_rfl, by kernel_rfl⟩⟩
instance : IsFn Tryz.prog 5 := ⟨⟨_, Tryz.func5, by kernel_rfl, by kernel_rfl⟩⟩
instance : IsFn Tryz.prog 6 := ⟨⟨_, Tryz.func6, by kernel_rfl, by kernel_rfl⟩⟩
instance : IsFn Tryz.prog 7 := ⟨⟨_, Tryz.func7, by kernel_rfl, by kernel_rfl⟩⟩
instance : IsFn Tryz.prog 8 := ⟨⟨_, Tryz.func8, by kernel_rfl, by kernel_rfl⟩⟩
instance : IsFn Tryz.prog 9 := ⟨⟨_, Tryz.func9, by kernel_rfl, by kernel_rfl⟩⟩
instance : IsFn Tryz.prog 10 := ⟨⟨_, Tryz.func10, by kernel_rfl, by kernel_rfl⟩⟩
instance : IsFn Tryz.prog 11 := ⟨⟨_, Tryz.func11, by kernel_rfl, by kernel_rfl⟩⟩
instance : IsFn Tryz.prog 12 := ⟨⟨_, Tryz.func12, by kernel_rfl, by kernel_rfl⟩⟩
instance : IsFn Tryz.prog 13 := ⟨⟨_, Tryz.func13, by kernel_rfl, by kernel_rfl⟩⟩
instance : IsFn Tryz.prog 14 := ⟨⟨_, Tryz.func14, by kernel_rfl, by kernel_rfl⟩⟩
instance : IsFn Tryz.prog 15 := ⟨⟨_, Tryz.func15, by kernel_rfl, by kernel_rfl⟩⟩
instance : IsFn Tryz.prog 16 := ⟨⟨_, Tryz.func16, by kernel_rfl, by kernel_rfl⟩⟩
instance : IsFn Tryz.prog 17 := ⟨⟨_, Tryz.func17, by kernel_rfl, by kernel_rfl⟩⟩
instance : IsFn Tryz.prog 18 := ⟨⟨_, Tryz.func18, by kernel_rfl, by kernel_rfl⟩⟩
instance : IsFn Tryz.prog 19 := ⟨⟨_, Tryz.func19, by kernel_rfl, by kernel_rfl⟩⟩
instance : IsFn Tryz.prog 20 := ⟨⟨_, Tryz.func20, by kernel_rfl, by kernel_rfl⟩⟩
instance : IsFn Tryz.prog 21 := ⟨⟨_, Tryz.func21, by kernel_rfl, by kernel_rfl⟩⟩
instance : IsFn Tryz.prog 22 := ⟨⟨_, Tryz.func22, by kernel_rfl, by kernel_rfl⟩⟩
instance : IsFn Tryz.prog 23 := ⟨⟨_, Tryz.func23, by kernel_rfl, by kernel_rfl⟩⟩
instance : IsFn Tryz.prog 24 := ⟨⟨_, Tryz.func24, by kernel_rfl, by kernel_rfl⟩⟩
instance : IsFn Tryz.prog 25 := ⟨⟨_, Tryz.func25, by kernel_rfl, by kernel_rfl⟩⟩
instance : IsFn Tryz.prog 26 := ⟨⟨_, Tryz.func26, by kernel_rfl, by kernel_rfl⟩⟩
instance : IsFn Tryz.prog 27 := ⟨⟨_, Tryz.func27, by kernel_rfl, by kernel_rfl⟩⟩
instance : IsFn Tryz.prog 28 := ⟨⟨_, Tryz.func28, by kernel_rfl, by kernel_rfl⟩⟩
instance : IsFn Tryz.prog 29 := ⟨⟨_, Tryz.func29, by kernel_rfl, by kernel_rfl⟩⟩
instance : IsFn Tryz.prog 30 := ⟨⟨_, Tryz.func30, by kernel_rfl, by kernel_rfl⟩⟩
instance : IsFn Tryz.prog 31 := ⟨⟨_, Tryz.func31, by kernel_rfl, by kernel_rfl⟩⟩
instance : IsFn Tryz.prog 32 := ⟨⟨_, Tryz.func32, by kernel_rfl, by kernel_rfl⟩⟩
instance : IsFn Tryz.prog 33 := ⟨⟨_, Tryz.func33, by kernel_rfl, by kernel_rfl⟩⟩
instance : IsFn Tryz.prog 34 := ⟨⟨_, Tryz.func34, by kernel_rfl, by kernel_rfl⟩⟩
instance : IsFn Tryz.prog 35 := ⟨⟨_, Tryz.func35, by kernel_rfl, by kernel_rfl⟩⟩
instance : IsFn Tryz.prog 36 := ⟨⟨_, Tryz.func36, by kernel_rfl, by kernel_rfl⟩⟩
instance : IsFn Tryz.prog 37 := ⟨⟨_, Tryz.func37, by kernel_rfl, by kernel_rfl⟩⟩
instance : IsFn Tryz.prog 38 := ⟨⟨_, Tryz.func38, by kernel_rfl, by kernel_rfl⟩⟩
instance : IsFn Tryz.prog 39 := ⟨⟨_, Tryz.func39, by kernel_rfl, by kernel_rfl⟩⟩
instance : IsFn Tryz.prog 40 := ⟨⟨_, Tryz.func40, by kernel_rfl, by kernel_rfl⟩⟩
instance : IsFn Tryz.prog 41 := ⟨⟨_, Tryz.func41, by kernel_rfl, by kernel_rfl⟩⟩
instance : IsFn Tryz.prog 42 := ⟨⟨_, Tryz.func42, by kernel_rfl, by kernel_rfl⟩⟩
instance : IsFn Tryz.prog 43 := ⟨⟨_, Tryz.func43, by kernel_rfl, by kernel_rfl⟩⟩
instance : IsFn Tryz.prog 44 := ⟨⟨_, Tryz.func44, by kernel_rfl, by kernel_rfl⟩⟩
instance : IsFn Tryz.prog 45 := ⟨⟨_, Tryz.func45, by kernel_rfl, by kernel_rfl⟩⟩
instance : IsFn Tryz.prog 46 := ⟨⟨_, Tryz.func46, by kernel_rfl, by kernel_rfl⟩⟩
instance : IsFn Tryz.prog 47 := ⟨⟨_, Tryz.func47, by kernel_rfl, by kernel_rfl⟩⟩
instance : IsFn Tryz.prog 48 := ⟨⟨_, Tryz.func48, by kernel_rfl, by kernel_rfl⟩⟩
instance : IsFn Tryz.prog 49 := ⟨⟨_, Tryz.func49, by kernel_rfl, by kernel_rfl⟩⟩
instance : IsFn Tryz.prog 50 := ⟨⟨_, Tryz.func50, by kernel_rfl, by kernel_rfl⟩⟩
instance : IsFn Tryz.prog 51 := ⟨⟨_, Tryz.func51, by kernel_rfl, by kernel_rfl⟩⟩
instance : IsFn Tryz.prog 52 := ⟨⟨_, Tryz.func52, by kernel_rfl, by kernel_rfl⟩⟩
instance : IsFn Tryz.prog 53 := ⟨⟨_, Tryz.func53, by kernel_rfl, by kernel_rfl⟩⟩
instance : IsFn Tryz.prog 54 := ⟨⟨_, Tryz.func54, by kernel_rfl, by kernel_rfl⟩⟩
instance : IsFn Tryz.prog 55 := ⟨⟨_, Tryz.func55, by kernel_rfl, by kernel_rfl⟩⟩
instance : IsFn Tryz.prog 56 := ⟨⟨_, Tryz.func56, by kernel_rfl, by kernel_rfl⟩⟩
instance : IsFn Tryz.prog 57 := ⟨⟨_, Tryz.func57, by kernel_rfl, by kernel_rfl⟩⟩
instance : IsFn Tryz.prog 58 := ⟨⟨_, Tryz.func58, by kernel_rfl, by kernel_rfl⟩⟩
instance : IsFn Tryz.prog 59 := ⟨⟨_, Tryz.func59, by kernel_rfl, by kernel_rfl⟩⟩
instance : IsFn Tryz.prog 60 := ⟨⟨_, Tryz.func60, by kernel_rfl, by kernel_rfl⟩⟩
instance : IsFn Tryz.prog 61 := ⟨⟨_, Tryz.func61, by kernel_rfl, by kernel_rfl⟩⟩
instance : IsFn Tryz.prog 62 := ⟨⟨_, Tryz.func62, by kernel_rfl, by kernel_rfl⟩⟩
instance : IsFn Tryz.prog 63 := ⟨⟨_, Tryz.func63, by kernel_rfl, by kernel_rfl⟩⟩
instance : IsFn Tryz.prog 64 := ⟨⟨_, Tryz.func64, by kernel_rfl, by kernel_rfl⟩⟩
instance : IsFn Tryz.prog 65 := ⟨⟨_, Tryz.func65, by kernel_rfl, by kernel_rfl⟩⟩
instance : IsFn Tryz.prog 66 := ⟨⟨_, Tryz.func66, by kernel_rfl, by kernel_rfl⟩⟩
instance : IsFn Tryz.prog 67 := ⟨⟨_, Tryz.func67, by kernel_rfl, by kernel_rfl⟩⟩
instance : IsFn Tryz.prog 68 := ⟨⟨_, Tryz.func68, by kernel_rfl, by kernel_rfl⟩⟩
instance : IsFn Tryz.prog 69 := ⟨⟨_, Tryz.func69, by kernel_rfl, by kernel_rfl⟩⟩
instance : IsFn Tryz.prog 70 := ⟨⟨_, Tryz.func70, by kernel_rfl, by kernel_rfl⟩⟩
instance : IsFn Tryz.prog 71 := ⟨⟨_, Tryz.func71, by kernel_rfl, by kernel_rfl⟩⟩
instance : IsFn Tryz.prog 72 := ⟨⟨_, Tryz.func72, by kernel_rfl, by kernel_rfl⟩⟩
instance : IsFn Tryz.prog 73 := ⟨⟨_, Tryz.func73, by kernel_rfl, by kernel_rfl⟩⟩
instance : IsFn Tryz.prog 74 := ⟨⟨_, Tryz.func74, by kernel_rfl, by kernel_rfl⟩⟩
instance : IsFn Tryz.prog 75 := ⟨⟨_, Tryz.func75, by kernel_rfl, by kernel_rfl⟩⟩
instance : IsFn Tryz.prog 76 := ⟨⟨_, Tryz.func76, by kernel_rfl, by kernel_rfl⟩⟩
instance : IsFn Tryz.prog 77 := ⟨⟨_, Tryz.func77, by kernel_rfl, by kernel_rfl⟩⟩
instance : IsFn Tryz.prog 78 := ⟨⟨_, Tryz.func78, by kernel_rfl, by kernel_rfl⟩⟩
instance : IsFn Tryz.prog 79 := ⟨⟨_, Tryz.func79, by kernel_rfl, by kernel_rfl⟩⟩
instance : IsFn Tryz.prog 80 := ⟨⟨_, Tryz.func80, by kernel_rfl, by kernel_rfl⟩⟩
instance : IsFn Tryz.prog 81 := ⟨⟨_, Tryz.func81, by kernel_rfl, by kernel_rfl⟩⟩
instance : IsFn Tryz.prog 82 := ⟨⟨_, Tryz.func82, by kernel_rfl, by kernel_rfl⟩⟩
instance : IsFn Tryz.prog 83 := ⟨⟨_, Tryz.func83, by kernel_rfl, by kernel_rfl⟩⟩
instance : IsFn Tryz.prog 84 := ⟨⟨_, Tryz.func84, by kernel_rfl, by kernel_rfl⟩⟩
instance : IsFn Tryz.prog 85 := ⟨⟨_, Tryz.func85, by kernel_rfl, by kernel_rfl⟩⟩
instance : IsFn Tryz.prog 86 := ⟨⟨_, Tryz.func86, by kernel_rfl, by kernel_rfl⟩⟩
instance : IsFn Tryz.prog 87 := ⟨⟨_, Tryz.func87, by kernel_rfl, by kernel_rfl⟩⟩
instance : IsFn Tryz.prog 88 := ⟨⟨_, Tryz.func88, by kernel_rfl, by kernel_rfl⟩⟩
instance : IsFn Tryz.prog 89 := ⟨⟨_, Tryz.func89, by kernel_rfl, by kernel_rfl⟩⟩
instance : IsFn Tryz.prog 92 := ⟨⟨_, Tryz.func92, by kernel_rfl, by kernel_rfl⟩⟩
instance : IsFn Tryz.prog 93 := ⟨⟨_, Tryz.func93, by kernel_rfl, by kernel_rfl⟩⟩
instance : IsFn Tryz.prog 94 := ⟨⟨_, Tryz.func94, by kernel_rfl, by kernel_rfl⟩⟩
instance : IsFn Tryz.prog 95 := ⟨⟨_, Tryz.func95, by kernel_rfl, by kernel_rfl⟩⟩
instance : IsFn Tryz.prog 96 := ⟨⟨_, Tryz.func96, by kernel_rfl, by kernel_rfl⟩⟩
instance : IsFn Tryz.prog 97 := ⟨⟨_, Tryz.func97, by kernel_rfl, by kernel_rfl⟩⟩
instance : IsFn Tryz.prog 98 := ⟨⟨_, Tryz.func98, by kernel_rfl, by kernel_rfl⟩⟩
instance : IsFn Tryz.prog 99 := ⟨⟨_, Tryz.func99, by kernel_rfl, by kernel_rfl⟩⟩
instance : IsFn Tryz.prog 100 := ⟨⟨_, Tryz.func100, by kernel_rfl, by kernel_rfl⟩⟩
instance : IsFn Tryz.prog 101 := ⟨⟨_, Tryz.func101, by kernel_rfl, by kernel_rfl⟩⟩
instance : IsFn Tryz.prog 102 := ⟨⟨_, Tryz.func102, by kernel_rfl, by kernel_rfl⟩⟩
instance : IsFn Tryz.prog 103 := ⟨⟨_, Tryz.func103, by kernel_rfl, by kernel_rfl⟩⟩
instance : IsFn Tryz.prog 104 := ⟨⟨_, Tryz.func104, by kernel_rfl, by kernel_rfl⟩⟩
instance : IsFn Tryz.prog 105 := ⟨⟨_, Tryz.func105, by kernel_rfl, by kernel_rfl⟩⟩
theorem mixed : Tryz.prog.follows .mixedOrders = true := by kernel_rfl
end Go.Proofs.YtlpheckjogphmaaGreat
namespace Go.Proofs.YtlpheckjogphmaaGreat
open Go Go.Eng Go.Proofs
instance : UMap Tryz.prog 82 78 27 := ⟨Tryz.underlying82⟩
instance : USpot Tryz.prog 78 := ⟨_, _, Tryz.underlying78, by decide, by decide, rfl, rfl, Tryz.underlying3, Tryz.underlying3, by kernel_rfl⟩
end Go.Proofs.YtlpheckjogphmaaGreat
namespace Go.Proofs.YtlpheckjogphmaaGreat
open Go Go.Eng Go.Proofs
instance : UStruct Tryz.prog 7 [(0, 1), (1, 1), (2, 1), (3, 1)] := ⟨⟨_, Tryz.underlying7, by kernel_rfl⟩⟩
instance : UStruct Tryz.prog 8 [(0, 1), (1, 1), (2, 1), (3, 1)] := ⟨⟨_, Tryz.underlying8, by kernel_rfl⟩⟩
instance : UStruct Tryz.prog 13 [(0, 1), (1, 1)] := ⟨⟨_, Tryz.underlying13, by kernel_rfl⟩⟩
instance : UStruct Tryz.prog 14 [(0, 1), (1, 1)] := ⟨⟨_, Tryz.underlying14, by kernel_rfl⟩⟩
instance : UStruct Tryz.prog 18 [(0, 1)] := ⟨⟨_, Tryz.underlying18, by kernel_rfl⟩⟩
instance : UStruct Tryz.prog 19 [(0, 1)] := ⟨⟨_, Tryz.underlying19, by kernel_rfl⟩⟩
instance : UStruct Tryz.prog 23 [(0, 1), (1, 1), (2, 1)] := ⟨⟨_, Tryz.underlying23, by kernel_rfl⟩⟩
instance : UStruct Tryz.prog 24 [(0, 1), (1, 1), (2, 1)] := ⟨⟨_, Tryz.underlying24, by kernel_rfl⟩⟩
instance : UStruct Tryz.prog 26 [(0, 1), (1, 1)] := ⟨⟨_, Tryz.underlying26, by kernel_rfl⟩⟩
instance : UStruct Tryz.prog 27 [(0, 1), (1, 1)] := ⟨⟨_, Tryz.underlying27, by kernel_rfl⟩⟩
instance : UStruct Tryz.prog 43 [(0, 1), (1, 1), (2, 1), (3, 2)] := ⟨⟨_, Tryz.underlying43, by kernel_rfl⟩⟩
instance : UStruct Tryz.prog 44 [(0, 1), (1, 1), (2, 1), (3, 2)] := ⟨⟨_, Tryz.underlying44, by kernel_rfl⟩⟩
instance : UStruct Tryz.prog 53 [(0, 1), (1, 1), (2, 1)] := ⟨⟨_, Tryz.underlying53, by kernel_rfl⟩⟩
instance : UStruct Tryz.prog 54 [(0, 1), (1, 1), (2, 1)] := ⟨⟨_, Tryz.underlying54, by kernel_rfl⟩⟩
instance : UStruct Tryz.prog 56 [(0, 1), (1, 1), (2, 2)] := ⟨⟨_, Tryz.underlying56, by kernel_rfl⟩⟩
instance : UStruct Tryz.prog 57 [(0, 1), (1, 1), (2, 2)] := ⟨⟨_, Tryz.underlying57, by kernel_rfl⟩⟩
instance : UStruct Tryz.prog 77 [(0, 1), (1, 1)] := ⟨⟨_, Tryz.underlying77, by kernel_rfl⟩⟩
instance : UStruct Tryz.prog 78 [(0, 1), (1, 1)] := ⟨⟨_, Tryz.underlying78, by kernel_rfl⟩⟩
instance : UStruct Tryz.prog 83 [(0, 1), (1, 1), (2, 1)] := ⟨⟨_, Tryz.underlying83, by kernel_rfl⟩⟩
instance : UStruct Tryz.prog 84 [(0, 1), (1, 1), (2, 1)] := ⟨⟨_, Tryz.underlying84, by kernel_rfl⟩⟩
instance : UStruct Tryz.prog 147 [(0, 1), (1, 1), (2, 1), (3, 1)] := ⟨⟨_, Tryz.underlying147, by kernel_rfl⟩⟩
instance : UStruct Tryz.prog 148 [(0, 1), (1, 1), (2, 1), (3, 1)] := ⟨⟨_, Tryz.underlying148, by kernel_rfl⟩⟩
instance : UStruct Tryz.prog 150 [(0, 0)] := ⟨⟨_, Tryz.underlying150, by kernel_rfl⟩⟩
instance : UStruct Tryz.prog 151 [(0, 0)] := ⟨⟨_, Tryz.underlying151, by kernel_rfl⟩⟩
instance : UStruct Tryz.prog 158 [(0, 1), (1, 1), (2, 1), (3, 1), (4, 1), (5, 1), (6, 1), (7, 1), (8, 1), (9, 1), (10, 1)] := ⟨⟨_, Tryz.underlying158, by kernel_rfl⟩⟩
instance : UStruct Tryz.prog 159 [(0, 1), (1, 1), (2, 1), (3, 1), (4, 1), (5, 1), (6, 1), (7, 1), (8, 1), (9, 1), (10, 1)] := ⟨⟨_, Tryz.underlying159, by kernel_rfl⟩⟩
end Go.Proofs.YtlpheckjogphmaaGreat
