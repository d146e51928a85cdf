/- The engine: range over a function: code walked in a round's frame, calls of yield, the statement itself, returns behind it. The engine: maps as facts of a frame. -/
import Derived.Test.YtlpheckjogphmaaPg4
import Derived.RangeFuncLeaves
import Derived.RangeFuncSeq
import Derived.RangeFuncOwn
import Derived.TacticsIn
import Derived.MapKept
import Derived.Laws.StructEq
set_option linter.unusedVariables false
set_option linter.unusedSimpArgs false
namespace Go.Eng
open Go Go.RowKit

section
variable {P : Program} {N : Fm} {Q : Exit → Act → World → Prop} {σ : Store} {S : Nat → Prop} {w0 w : World} {L : List VB} {D : List DP} {l : List Oper}
/-- .. a drawn region in which the newest block may be written -/
theorem T.regionFt {v : VB} (hF : Fr w0 w (v :: L) D S) (id : Nat) (f : Nat) (t : Rt) (hm : P.follows .mixedOrders = true) (hB : treeB l.toArray f t = true)
    (h : ∀ w1 : World, Fr w0 w1 (v :: L) D S → TF P N l Q (fun w' => Fr w0 w' L D S) f t σ w1) : T P N (.region id l.toArray true) Q σ w :=
  T.regionF _ f t hm hB ((hF.weak (List.Sublist.cons _ (List.Sublist.refl _)) allR).exts (ext_drewN w 1)) (h _ (hF.exts (ext_drewN w 1)))
end
/-- the fence that lets all in, in a round or not -/
def wideR (R : Option Nat) : Fence := { Fence.wide with round := R }
theorem calls_in {R : Option Nat} {n : Nat} {P : Program} {f : FuncId} {args : Array Value} {w : World} {Q : Ending → World → Prop} (h : Calls P f args w Q) : CallsIn (wideR R) n P f args w Q :=
  callsIn_wide (n := n).2 h
theorem rows_in {R : Option Nat} {n : Nat} {P : Program} {row : String} {args : Array Value} {w : World} {Q : Value → World → Prop} (h : Rows P row args w Q) : RowsIn (wideR R) n P row args w Q :=
  fun c cs _ => let ⟨v, w', r, s⟩ := h c cs; ⟨v, w', r, (stepsIn_wide (P := P)).2 s⟩
theorem upon_in {R : Option Nat} {n : Nat} {P : Program} {o : Oper} {a : Act} {next next' : Act → World → Prop} {Q Q' : Exit → Act → World → Prop} {r : Result Next} (hn : ∀ a w, next a w → next' a w) (hq : ∀ c a w, Q (.panic c) a w → Q' (.panic c) a w) (hl : ∀ a w, Q .outgrown a w → Q' .outgrown a w)
    (h : o.upon P a next Q r) : o.uponIn (wideR R) n P a next' Q' r := by
  unfold Oper.upon at h
  unfold Oper.uponIn
  split at h
  · exact hn _ _ h
  · exact hn _ _ h
  · exact hn _ _ h
  · refine ⟨fun e => (by cases e), calls_in (h.mono ?_)⟩
    intro e w' he
    cases e with
    | returned v => exact hn _ _ he
    | panicked c => exact hq _ _ _ he
    | outgrown => obtain ⟨a0, w0, h0⟩ := he; exact ⟨a0, w0, hl _ _ h0⟩
  · exact ⟨fun e => (by cases e), rows_in (h.mono fun v w' he => hn _ _ he)⟩
  · exact hq _ _ _ h
  · exact h.elim
def noDefer (o : Oper) : Bool := match o.op with
  | .defer _ => false
  | _ => true
theorem wp_in {R : Option Nat} {n : Nat} {P : Program} {o : Oper} {a : Act} {w : World} {next next' : Act → World → Prop} {Q Q' : Exit → Act → World → Prop} (hd : noDefer o = true) (hn : ∀ a w, next a w → next' a w) (hq : ∀ c a w, Q (.panic c) a w → Q' (.panic c) a w) (hl : ∀ a w, Q .outgrown a w → Q' .outgrown a w)
    (h : o.wp P a w next Q) : o.wpIn (wideR R) n P a w next' Q' := by
  refine ⟨fun _ _ => trivial, ?_⟩
  rw [Oper.semAt_eq _ _ _ (fun c e => by unfold noDefer at hd; rw [e] at hd; cases hd)]
  exact upon_in hn hq hl h
/-- no way that outgrows the memory is let out -/
def NoOut (Q : Exit → Act → World → Prop) : Prop := ∀ a w, ¬ Q .outgrown a w
theorem NoOut.lets {Q : Exit → Act → World → Prop} (h : NoOut Q) : ¬ LetsOut Q := fun ⟨a, w, hq⟩ => h a w hq
theorem list_in {R : Option Nat} {n : Nat} {P : Program} {ops : Array Oper} {Q : Exit → Act → World → Prop} (hno : NoOut Q) : ∀ (l : List Oper) (a : Act) (w : World), l.all noDefer = true → wpList P ops Q l a w → wpListIn (wideR R) n P ops Q l a w
  | [], a, w, _, h => h
  | o :: rest, a, w, hd, h => by
    simp only [List.all_cons, Bool.and_eq_true] at hd
    unfold wpListIn
    unfold wpList at h
    by_cases hw : Region.wanted o (yielded ops a.tmps) = true
    · rw [if_pos hw] at h ⊢
      rcases h with h | h
      · exact wp_in hd.1 (fun a w h => list_in hno rest a w hd.2 h) (fun _ _ _ h => h) (fun _ _ h => h) h
      · exact absurd h.2 hno.lets
    · rw [if_neg hw] at h ⊢
      exact ⟨fun _ _ => trivial, list_in hno rest _ w hd.2 h⟩

section
variable (P : Program) (R : Option Nat) (N : Fm)
/-- a piece of code, in a round's frame or not -/
def TI (c : Code) (Q : Exit → Act → World → Prop) (σ : Store) (w : World) : Prop := NoOut Q → ∀ a, Rep N σ a → c.wpIn (wideR R) 0 P Q a w
/-- operations of a region, in a round's frame or not -/
def TLI (ops : Array Oper) (Q : Exit → Act → World → Prop) (l : List Oper) (σ : Store) (w : World) : Prop := NoOut Q → ∀ a, Rep N σ a → wpListIn (wideR R) 0 P ops Q l a w
/-- the code that comes next -/
def Kc (c : Code) (Q : Exit → Act → World → Prop) (a : Act) (w : World) : Prop := NoOut Q → c.wpIn (wideR R) 0 P Q a w
def Kl (ops : Array Oper) (Q : Exit → Act → World → Prop) (l : List Oper) (a : Act) (w : World) : Prop := NoOut Q → wpListIn (wideR R) 0 P ops Q l a w
end
section
variable {P : Program} {R : Option Nat} {N : Fm} {Q : Exit → Act → World → Prop} {σ : Store} {w : World} {ops : Array Oper} {rest : List Oper}
theorem TI.is {c : Code} (h : TI P R N c Q σ w) : TI P R N c Q σ w := h
theorem TI.seq {x y : Code} (h : TI P R N x (Exit.then (Kc P R y Q) Q) σ w) : TI P R N (x.seq y) Q σ w := fun hno a ha => wpIn_seq (wpIn_mono (h hno a ha) fun e a w hq => by
  cases e with
  | normal => exact hq hno
  | _ => exact hq)
theorem TI.skip (h : G N .normal Q σ w) : TI P R N .skip Q σ w := by unfold G at h; exact fun _ a ha => wpIn_skip (h a ha)
theorem TI.exit {id : Nat} (h : G N (.exit id) Q σ w) : TI P R N (.exit id) Q σ w := by unfold G at h; exact fun _ a ha => wpIn_exit (h a ha)
theorem TI.ret (h : G N .ret Q σ w) : TI P R N .ret Q σ w := by unfold G at h; exact fun _ a ha => wpIn_ret (h a ha)
theorem TI.block {id : Nat} {c : Code} (h : TI P R N c (Exit.inBlock id Q) σ w) : TI P R N (.block id c) Q σ w := fun hno a ha => wpIn_block (h hno a ha)
theorem TI.cond_t {c : Operand} {x y : Code} (hc : look σ c = some (.bool true)) (h : TI P R N x Q σ w) : TI P R N (.cond c x y) Q σ w :=
  fun hno a ha => wpIn_cond_true (ha.agree _ _ hc) (h hno a ha)
theorem TI.cond_f {c : Operand} {x y : Code} (hc : look σ c = some (.bool false)) (h : TI P R N y Q σ w) : TI P R N (.cond c x y) Q σ w :=
  fun hno a ha => wpIn_cond_false (ha.agree _ _ hc) (h hno a ha)
theorem TI.sub {c : Code} {σ' : Store} (hs : Sub σ' σ) (h : TI P R N c Q σ' w) : TI P R N c Q σ w := fun hno a ha => h hno a (ha.sub hs)
theorem TI.region {id : Nat} {l : List Oper} (hd : l.all noDefer = true) (h : TL P N .seq l.toArray Q l σ w) : TI P R N (.region id l.toArray false) Q σ w := by
  unfold TL at h
  exact fun hno a ha => wpIn_region_lit (list_in hno _ _ _ hd (h a ha))
theorem TI.regionI {id : Nat} {l : List Oper} (h : TLI P R N l.toArray Q l σ w) : TI P R N (.region id l.toArray false) Q σ w := fun hno a ha => wpIn_region_lit (h hno a ha)
theorem TLI.is {l : List Oper} (h : TLI P R N ops Q l σ w) : TLI P R N ops Q l σ w := h
theorem YieldAt.weak {F : Fence} {m : Nat} {P : Program} {l : Nat} {args : Array Value} {W : World} {R R' : Ending → World → Prop} (h : YieldAt F m P l args W R) (hr : ∀ e w, R e w → R' e w) : YieldAt F m P l args W R' := by
  obtain ⟨fn, tmps, assign, body, hy, hR⟩ := h
  exact ⟨fn, tmps, assign, body, hy, RoundIn.mono hR hr⟩
theorem TLI.nil (h : G N .normal Q σ w) : TLI P R N ops Q [] σ w := by unfold G at h; exact fun _ a ha => h a ha
theorem TLI.step {o : Oper} (hd : noDefer o = true) (h : TL P N .seq ops (Exit.then (Kl P R ops Q rest) Q) [o] σ w) : TLI P R N ops Q (o :: rest) σ w := by
  intro hno a ha
  unfold TL at h
  have h1 := h a ha
  simp only [wpList] at h1
  unfold wpListIn
  by_cases hw : Region.wanted o (yielded ops a.tmps) = true
  · rw [if_pos hw] at h1 ⊢
    rcases h1 with h1 | h1
    · exact wp_in hd (fun a w h => h hno) (fun _ _ _ h => h) (fun _ _ h => h) h1
    · exact absurd h1.2 (NoOut.lets (Q := Exit.then (Kl P R ops Q rest) Q) hno)
  · rw [if_neg hw] at h1 ⊢
    exact ⟨fun _ _ => trivial, h1 hno⟩
theorem G.nextL (h : TLI P R N ops Q rest σ w) : G N .normal (Exit.then (Kl P R ops Q rest) Q) σ w := by unfold G; exact fun a ha hno => h hno a ha
theorem G.nextI {y : Code} (h : TI P R N y Q σ w) : G N .normal (Exit.then (Kc P R y Q) Q) σ w := by unfold G; exact fun a ha hno => h hno a ha
theorem exec_yield {ρ : Operand → Value} {l : Nat} {x : Operand} {xs : List Operand} {tys : Array TypeId} {vs : List Value} {dd : Option Tmp} {t : TypeId} {pos : String} {af : Array Edge} {gd : Option (Nat × Bool)} {r : Next} (hρ : Agree σ ρ) (hf : look σ x = some (.func (.yield l) #[] #[])) (hx : looks σ xs = some vs)
    (hy : (Instr.yield l vs.toArray).run P w = .ok r w) : (execOp ρ ⟨dd, .call { callee := .value x, args := xs.toArray, argTypes := tys }, t, pos, af, gd⟩).run P w = .ok r w := by
  have e := hρ.list xs vs hx
  have ef := hρ x _ hf
  simp [execOp, resolve, ef, Deferred.ofValue, invoke, e, hy]
/-- a call of yield -/
theorem TLI.yield {l : Nat} {d : Nat} {x : Operand} {xs : List Operand} {tys : Array TypeId} {vs : List Value} {t : TypeId} {pos : String} {af : Array Edge} (hf : look σ x = some (.func (.yield l) #[] #[])) (hx : looks σ xs = some vs) (hd : Nat.blt d N.n = true)
    (k : YieldAt Fence.wide 0 P l vs.toArray w fun e w' => ∃ v, e = .returned v ∧ TLI P R N ops Q rest ((d, v) :: σ) w') :
    TLI P R N ops Q (⟨some d, .call { callee := .value x, args := xs.toArray, argTypes := tys }, t, pos, af, none⟩ :: rest) σ w := by
  obtain ⟨fn, tmps, assign, body, hy, hR⟩ := k
  intro hno a ha
  refine wpListIn_plain rfl fun K hK => ⟨fun _ _ => trivial, ?_⟩
  rw [Oper.semAt_eq _ _ _ (fun c e => by cases e), exec_yield ha.agree hf hx hy, Oper.uponIn_round]
  refine ⟨fun e => (by cases e), RoundIn.mono (F := wideR R) hR ?_⟩
  rintro e w' ⟨v, rfl, hk⟩
  exact hK _ _ (hk hno _ (ha.put hd v))
theorem TI.loop {α : Type} {c : Code} (st : α → Store) (I : α → World → Prop) (μ : α → Nat) (x0 : α) (hs : Sub (st x0) σ) (h0 : I x0 w)
    (round : ∀ x w, I x w → TI P R N c (Exit.then (fun a' w' => ∃ x', Rep N (st x') a' ∧ I x' w' ∧ μ x' < μ x) Q) (st x) w) : TI P R N (.loop c) Q σ w := by
  intro hno a ha b k cs hro hb hr
  have key : ∀ j x a w, μ x = j → Rep N (st x) a → I x w →
      ∃ e a' w', Q e a' w' ∧ ArrivesIn (Machine.fenced P (wideR R)) P (lone (b.atR a (.code c :: .inLoop c :: k)) cs w) b k cs e a' w' := by
    intro j
    induction j using Nat.strongRecOn with
    | _ j ih =>
      intro x a w hx hrr hI
      obtain ⟨e, a₁, w₁, hq, harr⟩ := round x w hI hno a hrr b (.inLoop c :: k) cs hro hb hr
      cases e with
      | normal =>
        obtain ⟨x', hr', hI', hlt⟩ := hq
        obtain ⟨e₂, a₂, w₂, hq₂, harr₂⟩ := ih (μ x') (hx ▸ hlt) x' a₁ w₁ rfl hr' hI'
        exact ⟨e₂, a₂, w₂, hq₂, .of_steps (StepsIn.trans harr (.one (fenced_calm (n := 0) hb hr rfl) stepR_inLoop)) harr₂⟩
      | exit id => exact ⟨_, a₁, w₁, hq, .pass (x := .inLoop c) rfl (fun _ _ => .inl (by simp)) harr⟩
      | goto l => exact ⟨_, a₁, w₁, hq, .pass (x := .inLoop c) rfl (fun _ _ => .inl (by simp)) harr⟩
      | ret => exact ⟨_, a₁, w₁, hq, .pass (x := .inLoop c) rfl (fun _ _ => .inl (by simp)) harr⟩
      | panic ch => exact ⟨_, a₁, w₁, hq, .pass (x := .inLoop c) rfl (fun _ _ => .inl (by simp)) harr⟩
      | outgrown => exact ⟨_, a₁, w₁, hq, .pass (x := .inLoop c) rfl (fun _ _ => .inl (by simp)) harr⟩
  obtain ⟨e, a', w', hq, harr⟩ := key _ x0 a w rfl (ha.sub hs) h0
  exact ⟨e, a', w', hq, .of_steps (.one (fenced_calm (n := 0) hb hr rfl) stepR_loop) harr⟩
end

/-! ### Worlds behind the loop's book-keeping -/
/-- cells stand, and all that lay below B -/
def keepsObj : Obj → Bool
  | .cells .. => true
  | .map .. => true
  | .mapIter .. => true
  | _ => false
theorem keepsObj_map {o : Obj} (h : mapO o = true) : keepsObj o = true := by cases o <;> first | rfl | cases h
theorem keepsObj_of {o : Obj} (h : o.isCells = true) : keepsObj o = true := by cases o <;> first | rfl | cases h
structure Cx (B : Nat) (w w' : World) : Prop where
  os : w'.os = w.os
  tape : w'.tape = w.tape
  output : w'.output = w.output
  size : w.heap.size ≤ w'.heap.size
  low : ∀ k, k < B → k < w.heap.size → w'.heap[k]? = w.heap[k]?
  cells : ∀ (k : Nat) (o : Obj), w.heap[k]? = some o → keepsObj o = true → w'.heap[k]? = w.heap[k]?
theorem Cx.refl (B : Nat) (w : World) : Cx B w w := ⟨rfl, rfl, rfl, Nat.le_refl _, fun _ _ _ => rfl, fun _ _ _ _ => rfl⟩
theorem Cx.of {B : Nat} {w w' : World} (h : Ext w w') : Cx B w w' := ⟨h.os, h.tape, h.output, h.size, fun k _ hk => h.block k hk, fun k o hk _ => h.block k (Array.getElem?_eq_some_iff.1 hk).1⟩
theorem Cx.trans {B : Nat} {a b c : World} (h : Cx B a b) (k : Cx B b c) : Cx B a c :=
  ⟨k.os.trans h.os, k.tape.trans h.tape, k.output.trans h.output, Nat.le_trans h.size k.size, fun i hi hl => (k.low i hi (Nat.lt_of_lt_of_le hl h.size)).trans (h.low i hi hl),
    fun i o hi ho => by have h1 := h.cells i o hi ho; exact (k.cells i o (h1.trans hi) ho).trans h1⟩
theorem Cx.put {B : Nat} {w : World} {l : Nat} {o : Obj} (o' : Obj) (hl : B ≤ l) (h : w.heap[l]? = some o) (ho : keepsObj o = false) : Cx B w (w.putObj l o') :=
  ⟨rfl, rfl, rfl, Nat.le_of_eq World.putObj_size.symm, fun k hk _ => World.putObj_heap_other (by omega), fun k x hk hx => World.putObj_heap_other (fun e => by subst e; rw [h] at hk; cases hk; rw [ho] at hx; cases hx)⟩
theorem Cx.mono {B B' : Nat} {w w' : World} (h : Cx B w w') (hB : B' ≤ B) : Cx B' w w' := ⟨h.os, h.tape, h.output, h.size, fun k hk => h.low k (Nat.lt_of_lt_of_le hk hB), h.cells⟩
theorem Cx.ext {w0 w w' : World} {B : Nat} (h : Ext w0 w) (k : Cx B w w') (hB : w0.heap.size ≤ B) : Ext w0 w' :=
  ⟨k.os.trans h.os, k.tape.trans h.tape, k.output.trans h.output, Nat.le_trans h.size k.size, fun i hi => (k.low i (Nat.lt_of_lt_of_le hi hB) (Nat.lt_of_lt_of_le hi h.size)).trans (h.block i hi)⟩
theorem Cx.de {F : Nat → Prop} {B : Nat} {w w' : World} (k : Cx B w w') : DE F w.heap w'.heap := ⟨k.size, fun i cs t x hi _ => k.cells i _ hi rfl, fun i o hi ho _ => k.cells i _ hi (keepsObj_map ho)⟩
section
variable {S : Nat → Prop} {w0 w w' W : World} {L : List VB} {D : List DP} {B : Nat}
theorem Fr.cx (h : Fr w0 w L D S) (k : Cx B w w') (hB : w0.heap.size ≤ B) : Fr w0 w' L D S :=
  ⟨⟨k.os.trans h.exs.os, k.tape.trans h.exs.tape, k.output.trans h.exs.output, Nat.le_trans h.exs.size k.size, fun i hi hs => (k.low i (Nat.lt_of_lt_of_le hi hB) (Nat.lt_of_lt_of_le hi h.exs.size)).trans (h.exs.block i hi hs)⟩,
    fun v hv => ⟨(h.vars v hv).1, by have h1 := (h.vars v hv).2; unfold Vr at h1 ⊢; exact (k.cells _ _ h1 rfl).trans h1⟩, h.dist, fun d hd => d.st _ _ k.de (h.data d hd), h.apart⟩
/-- a new first world: what stood at w0 stands at W, and S names blocks of cells that are not older than w0 -/
structure Opn (w0 W : World) (S : Nat → Prop) : Prop where
  ext : Ext w0 W
  lo : ∀ k, S k → w0.heap.size ≤ k
  cells : ∀ k, S k → ∃ o : Obj, W.heap[k]? = some o ∧ o.isCells = true
/-- from W on -/
theorem Fr.open (h : Fr w0 W L D) : ∃ S, Opn w0 W S ∧ Fr W W L D S :=
  ⟨fun k => ∃ v ∈ L, v.b = k, ⟨h.ext, fun k ⟨v, hv, e⟩ => by rcases (h.vars v hv).1 with h1 | h1; exact e ▸ h1; exact h1.elim, fun k ⟨v, hv, e⟩ => ⟨_, e ▸ (h.vars v hv).2, rfl⟩⟩,
    Exs.refl _ _, fun v hv => ⟨.inr ⟨v, hv, rfl⟩, (h.vars v hv).2⟩, h.dist, h.data, h.apart⟩
theorem Fr.outer (hO : Opn w0 W S) (h : Fr W w L D S) : Ext w0 w :=
  ⟨h.exs.os.trans hO.ext.os, h.exs.tape.trans hO.ext.tape, h.exs.output.trans hO.ext.output, Nat.le_trans hO.ext.size h.exs.size, fun k hk => (h.exs.block k (Nat.lt_of_lt_of_le hk hO.ext.size) (fun hs => by have := hO.lo k hs; omega)).trans (hO.ext.block k hk)⟩
theorem Fr.shut (hO : Opn w0 W S) (h : Fr W w L D S) : Fr w0 w L D :=
  ⟨.of (h.outer hO), fun v hv => ⟨.inl (by rcases (h.vars v hv).1 with h1 | h1; exact Nat.le_trans hO.ext.size h1; exact hO.lo _ h1), (h.vars v hv).2⟩, h.dist, h.data, h.apart⟩
theorem Fr.others (hO : Opn w0 W S) (h : Fr W w L D S) : KeepsOthers W w :=
  ⟨h.exs.size, fun k o hk ho => (h.exs.block k (Array.getElem?_eq_some_iff.1 hk).1 (fun hs => by obtain ⟨o', h1, h2⟩ := hO.cells k hs; rw [hk] at h1; cases h1; rw [ho] at h2; cases h2)).trans hk⟩
end

/-! ### The statement -/
/-- the rounds' parameters laid into the store -/
def putAll : List Nat → List Value → Store → Store
  | p :: ps, v :: vs, σ => putAll ps vs ((p, v) :: σ)
  | _, _, σ => σ
theorem Rep.fold {N : Fm} : ∀ (ps : List Nat) (vs : List Value) {σ : Store} {a : Act}, Rep N σ a → ps.all (fun p => Nat.blt p N.n) = true → Rep N (putAll ps vs σ) { a with tmps := (ps.zip vs).foldl (fun t (x : Nat × Value) => t.setIfInBounds x.1 x.2) a.tmps }
  | [], vs, σ, a, h, _ => by simpa [putAll] using h
  | p :: ps, [], σ, a, h, _ => by simpa [putAll] using h
  | p :: ps, v :: vs, σ, a, h, hp => by
    simp only [List.all_cons, Bool.and_eq_true] at hp
    have := Rep.fold ps vs (h.put hp.1 v) hp.2
    simpa [putAll, Act.put] using this
/-- an iterator's contract: it calls yield m times, with arguments that meet Fx, as long as It is kept; J i: i rounds are over; Jx: a round has said no -/
def Iter (P : Program) (gf : FuncId) (cap : List Value) {β : Type} (args : β → List Value) (m : Nat) (It : World → Prop) (Fx : Nat → β → World → World → Prop) : Prop :=
  ∀ (l : Nat) (J : Nat → World → Prop) (Jx : World → Prop) (W : World), (∀ i W W', J i W → Ext W W' → J i W') → (∀ W W', Jx W → Ext W W' → Jx W') → It W → J 0 W →
    (∀ i x Wb W1, i < m → J i Wb → It Wb → Ext Wb W1 → Fx i x Wb W1 → YieldAt Fence.wide 0 P l (args x).toArray W1 fun e W' => (e = .returned (.bool true) ∧ J (i + 1) W' ∧ It W') ∨ (e = .returned (.bool false) ∧ Jx W')) →
    Calls P gf (Value.func (.yield l) #[] #[] :: cap).toArray W fun e W' => (∃ v, e = .returned v) ∧ ((J m W' ∧ It W') ∨ Jx W')
/-- how the body of a round may be left -/
def RPost (I : World → Prop) (Ix : Code → World → Prop) (W : World) : Exit → Act → World → Prop
  | .normal, _, w' => KeepsOthers W w' ∧ I w'
  | .ret, _, w' => KeepsOthers W w' ∧ Ix .ret w'
  | .exit id, _, w' => KeepsOthers W w' ∧ Ix (.exit id) w'
  | _, _, _ => False
/-- behind the assignment to the loop's left sides -/
def Begun (P : Program) (B l : Nat) (body : Code) (I : World → Prop) (Ix : Code → World → Prop) (W : World) (a₁ : Act) (w₁ : World) : Prop :=
  KeepsOthers W w₁ ∧ ∀ w₂, Cx B w₁ w₂ → (∃ r, w₂.heap[l]? = some (.loop r)) → body.wpIn (wideR (some l)) 0 P (RPost I Ix w₂) a₁ w₂
def markOf (D : Nat) : Deferred := { target := .collected D, args := #[] }
theorem TI.rangeFunc {P : Program} {n : Nat} {Q : Exit → Act → World → Prop} {σ : Store} {w : World} {g : Operand} {ps : List Nat} {assign body : Code} {gf : FuncId} {cap : List Value} {β : Type} {args : β → List Value} {m : Nat} {It : World → Prop} {Fx : Nat → β → World → World → Prop}
    (hIt : Iter P gf cap args m It Fx) (hg : look σ g = some (.func (.func gf) #[] cap.toArray)) (hfn : IsFn P gf) (hps : ∀ x, (args x).length = ps.length) (hpn : ps.all (fun p => Nat.blt p n) = true)
    (it0 : It w) (hItc : ∀ W W', It W → Cx w.heap.size W W' → It W')
    (I : Nat → World → Prop) (Ix : Code → World → Prop) (hI : ∀ i W W', I i W → Cx w.heap.size W W' → I i W') (hIx : ∀ c W W', Ix c W → Cx w.heap.size W W' → Ix c W') (h0 : I 0 w)
    (hround : ∀ l i x Wb W, i < m → w.heap.size + 1 ≤ l → (∃ r, W.heap[l]? = some (.loop r)) → I i Wb → It Wb → Ext Wb W → Fx i x Wb W → TI P (some l) ⟨n, []⟩ assign (Exit.then (Begun P w.heap.size l body (fun w' => I (i + 1) w' ∧ It w') Ix W) (fun _ _ _ => False)) (putAll ps (args x) σ) W)
    (hdone : ∀ D w', w.heap.size ≤ D → w'.heap[D]? = some (.deferred (some [])) → I m w' → It w' → G ⟨n, [markOf D]⟩ .normal Q σ w')
    (hstop : ∀ D c w', w.heap.size ≤ D → w'.heap[D]? = some (.deferred (some [])) → Ix c w' → TI P none ⟨n, [markOf D]⟩ c Q σ w') :
    TI P none ⟨n, []⟩ (.rangeFunc g ps.toArray assign body) Q σ w := by
  intro hno a ha
  refine wpIn_rangeFunc (F := wideR none) (n := 0) ?_
  intro fn _
  have hnd : a.defers = [] := ha.nodef
  obtain ⟨rec, hrec⟩ : ∃ rec : LoopState → Option Code → Loop, rec = fun st pe => { state := st, pending := pe, fn, tmps := a.tmps, params := ps.toArray, assign, body, defers := w.heap.size } := ⟨_, rfl⟩
  obtain ⟨W1, hW1⟩ : ∃ W1, (w.alloc (.deferred (some []))).alloc (.loop (rec .ready none)) = W1 := ⟨_, rfl⟩
  have hE1 : Ext w W1 := by rw [← hW1]; exact Ext.trans (ext_alloc _ _) (ext_alloc _ _)
  have hL1 : W1.heap[w.heap.size + 1]? = some (.loop (rec .ready none)) := by
    rw [← hW1]; have := World.alloc_heap_new (w.alloc (.deferred (some []))) (.loop (rec .ready none)); rwa [World.size_alloc] at this
  have hK1 : W1.heap[w.heap.size]? = some (.deferred (some [])) := by
    rw [← hW1]; exact (Below.heap_alloc _ _ _ (by simp)).trans (World.alloc_heap_new w _)
  have ef := ha.agree _ _ hg
  refine ⟨w.heap.size + 1, [markOf w.heap.size], W1, { target := .fn (.func gf) cap.toArray, args := #[.func (.yield (w.heap.size + 1)) #[] #[]] }, W1, gf,
    (Value.func (.yield (w.heap.size + 1)) #[] #[] :: cap).toArray, W1, ?_, ?_, fun _ _ => trivial, ?_, fun e => (by cases e), ?_⟩
  · rw [← hW1, hrec]; exact run_enterLoop_outer _ _ _ _ _
  · simp only [resolve, ef]
    simp [go_sem]
  · simp [invoke, run_callFunc_enter hfn]
  · have recE : ∀ {W W' : World} {o : Obj} {k : Nat}, W.heap[k]? = some o → Ext W W' → W'.heap[k]? = some o := fun h hE => (hE.block _ (Array.getElem?_eq_some_iff.1 h).1).trans h
    refine calls_in ((hIt (w.heap.size + 1) (fun i W => I i W ∧ W.heap[w.heap.size + 1]? = some (.loop (rec .ready none)) ∧ W.heap[w.heap.size]? = some (.deferred (some [])))
      (fun W => ∃ c, Ix c W ∧ W.heap[w.heap.size + 1]? = some (.loop (rec .done (some c))) ∧ W.heap[w.heap.size]? = some (.deferred (some []))) W1
      (fun i W W' h hE => ⟨hI i W W' h.1 (.of hE), recE h.2.1 hE, recE h.2.2 hE⟩) (fun W W' ⟨c, h⟩ hE => ⟨c, hIx c W W' h.1 (.of hE), recE h.2.1 hE, recE h.2.2 hE⟩)
      (hItc _ _ it0 (.of hE1)) ⟨hI _ _ _ h0 (.of hE1), hL1, hK1⟩ ?_).mono ?_)
    · rintro i x Wb W hi ⟨hi0, hl, hk⟩ hit hEb hfx
      replace hl := recE hl hEb
      replace hk := recE hk hEb
      have hlt : w.heap.size + 1 < W.heap.size := (Array.getElem?_eq_some_iff.1 hl).1
      have hy := run_yield (P := P) (args := (args x).toArray) hl (by rw [hrec]; simpa using hps x)
      rw [hrec] at hy
      refine ⟨fn, _, assign, body, hy, roundIn_of_wpIn (F := Fence.wide) (n := 0) trivial ?_⟩
      have hrep : Rep ⟨n, []⟩ (putAll ps (args x) σ) { tmps := (ps.toArray.zip (args x).toArray).foldl (fun t (x : Nat × Value) => t.setIfInBounds x.1 x.2) a.tmps, defers := [] } := by
        have := Rep.fold ps (args x) ha hpn
        rw [hnd] at this
        simpa [List.zip_toArray] using this
      refine wpIn_mono (hround (w.heap.size + 1) i x Wb W hi (Nat.le_refl _) ⟨_, hl⟩ hi0 hit hEb hfx (fun _ _ h => h) _ hrep) ?_
      rintro e a₁ w₁ hq
      cases e with
      | normal =>
        obtain ⟨hk1, hbody⟩ := hq
        have hl1 := hk1.same _ _ hl rfl
        have hd1 := hk1.same _ _ hk rfl
        have hlt1 := (Array.getElem?_eq_some_iff.1 hl1).1
        refine ⟨_, run_beginRound hl1 (by rw [hrec]), ?_⟩
        have hc2 : Cx w.heap.size w₁ (w₁.putObj (w.heap.size + 1) (.loop { rec .ready none with state := .busy })) := .put _ (by omega) hl1 rfl
        have hl2 : (w₁.putObj (w.heap.size + 1) (.loop { rec .ready none with state := .busy })).heap[w.heap.size + 1]? = some (.loop { rec .ready none with state := .busy }) := World.putObj_heap_same hlt1
        have hk2 : (w₁.putObj (w.heap.size + 1) (.loop { rec .ready none with state := .busy })).heap[w.heap.size]? = some (.deferred (some [])) := (World.putObj_heap_other (by omega)).trans hd1
        refine wpIn_mono (hbody _ hc2 ⟨_, hl2⟩) ?_
        have fin : ∀ (jump : Option Code) (W3 : World), KeepsOthers (w₁.putObj (w.heap.size + 1) (.loop { rec .ready none with state := .busy })) W3 →
            ∃ W4, (Instr.endRound (w.heap.size + 1) jump).run P W3 = .ok (.bool jump.isNone) W4 ∧ Cx w.heap.size W3 W4 ∧
            W4.heap[w.heap.size + 1]? = some (.loop (rec (if jump.isNone then .ready else .done) jump)) ∧ W4.heap[w.heap.size]? = some (.deferred (some [])) := fun jump W3 hk3 => by
          have hl3 := hk3.same _ _ hl2 rfl
          have := run_endRound (P := P) jump hl3
          refine ⟨_, this, .put _ (by omega) hl3 rfl, ?_, (World.putObj_heap_other (by omega)).trans (hk3.same _ _ hk2 rfl)⟩
          rw [World.putObj_heap_same (Array.getElem?_eq_some_iff.1 hl3).1, hrec]
        rintro e a3 W3 hp
        cases e with
        | normal =>
          obtain ⟨W4, hr, hc4, hl4, hk4⟩ := fin none W3 hp.1
          exact ⟨_, _, hr, .inl ⟨rfl, ⟨hI _ _ _ hp.2.1 hc4, hl4, hk4⟩, hItc _ _ hp.2.2 hc4⟩⟩
        | ret =>
          obtain ⟨W4, hr, hc4, hl4, hk4⟩ := fin (some .ret) W3 hp.1
          exact ⟨_, _, hr, .inr ⟨rfl, .ret, hIx _ _ _ hp.2 hc4, hl4, hk4⟩⟩
        | exit id =>
          obtain ⟨W4, hr, hc4, hl4, hk4⟩ := fin (some (.exit id)) W3 hp.1
          exact ⟨_, _, hr, .inr ⟨rfl, .exit id, hIx _ _ _ hp.2 hc4, hl4, hk4⟩⟩
        | goto t => exact hp.elim
        | panic ch => exact hp.elim
        | outgrown => exact hp.elim
      | _ => exact hq.elim
    · rintro e W2 ⟨⟨v, rfl⟩, (⟨⟨hi, hl, hk⟩, hit⟩ | ⟨c, hi, hl, hk⟩)⟩
      · have hc : Cx w.heap.size W2 (W2.putObj (w.heap.size + 1) (.loop { rec .ready none with state := .exhausted })) := .put _ (by omega) hl rfl
        have hq := hdone w.heap.size _ (Nat.le_refl _) ((World.putObj_heap_other (by omega)).trans hk) (hI _ _ _ hi hc) (hItc _ _ hit hc)
        unfold G at hq
        refine ⟨none, _, (run_endLoop (P := P) hl (by rw [hrec]; simp)).trans (congrArg (fun x => Result.ok x _) (show (rec .ready none).pending = none by rw [hrec])), ?_⟩
        exact hq _ ⟨ha.size, by simp [hnd], ha.get⟩
      · have hc : Cx w.heap.size W2 (W2.putObj (w.heap.size + 1) (.loop { rec .done (some c) with state := .exhausted })) := .put _ (by omega) hl rfl
        refine ⟨some c, _, (run_endLoop (P := P) hl (by rw [hrec]; simp)).trans (congrArg (fun x => Result.ok x _) (show (rec .done (some c)).pending = some c by rw [hrec])), ?_⟩
        exact hstop w.heap.size c _ (Nat.le_refl _) ((World.putObj_heap_other (by omega)).trans hk) (hIx _ _ _ hi hc) hno _ ⟨ha.size, by simp [hnd], ha.get⟩

/-! ### Functions that hold such a statement, and iterators -/
section
variable {P : Program} {n : Nat} {σ : Store} {w : World} {fn : Func} {R : Ending → World → Prop}
theorem enterM {f : FuncId} {fn : Func} {c : Code} {vs : List Value} {R : Ending → World → Prop} (hf : P.funcs[f]? = some fn) (hb : fn.body = some c) {n : Nat} (hn : fn.ntmps = n) (hl : Nat.ble vs.length n = true) (hR : ∀ w', ¬ R .outgrown w')
    (h : TI P none ⟨n, []⟩ c (bodyPostM Fence.wide 0 P fn R) (argStore 0 vs) w) : Cl P f vs.toArray w R := by
  refine Cl.of (callsIn_wide (n := 0) |>.1 (callsIn_of_wp_marks hf hb trivial (h (fun _ w' h => hR w' h) _ ⟨?_, rfl, fun i v hv => ?_⟩)))
  · have := Nat.le_of_ble_eq_true hl
    simp [hn]; omega
  · obtain ⟨_, h2⟩ := look_argStore vs 0 i v hv
    rw [Nat.sub_zero] at h2
    have hi := (List.getElem?_eq_some_iff.1 h2).1
    simp only [Array.getD_eq_getD_getElem?]
    rw [Array.getElem?_append_left (by simpa using hi)]
    simp [h2]
theorem leavesM {tmps : Array Value} {v : Value} (hr : (results fn tmps).run P w = .ok v w) (h : R (.returned v) w) : LeavesInM Fence.wide 0 P fn tmps R [] .returning w := ⟨v, hr, h⟩
theorem leavesM_mark {tmps : Array Value} {v : Value} {D : Nat} (hD : w.heap[D]? = some (.deferred (some []))) (hr : (results fn tmps).run P (w.putObj D (.deferred none)) = .ok v (w.putObj D (.deferred none))) (h : R (.returned v) (w.putObj D (.deferred none))) :
    LeavesInM Fence.wide 0 P fn tmps R [markOf D] .returning w := ⟨by simp, .inl ⟨_, _, rfl, run_takeDeferred hD, leavesM hr h⟩⟩
theorem G.retM2 {r s : Nat} {v u : Value} (hr : fn.results = #[.tmp r, .tmp s]) (hv : look1 σ r = some v) (hu : look1 σ s = some u) (h : R (.returned (.tuple #[v, u])) w) : G ⟨n, []⟩ .ret (bodyPostM Fence.wide 0 P fn R) σ w := by
  unfold G
  intro a ha
  have hd := ha.nodef
  simp only [bodyPostM, hd]
  exact leavesM (results_tmp2 hr _ _ _) (by rw [ha.get r v hv, ha.get s u hu]; exact h)
theorem G.retM0 (hr : fn.results = #[]) (h : R (.returned (.tuple #[])) w) : G ⟨n, []⟩ .ret (bodyPostM Fence.wide 0 P fn R) σ w := by
  unfold G
  intro a ha
  have hd := ha.nodef
  simp only [bodyPostM, hd]
  exact leavesM (results_none hr _ _ _) h
theorem G.endM0 (hr : fn.results = #[]) (h : R (.returned (.tuple #[])) w) : G ⟨n, []⟩ .normal (bodyPostM Fence.wide 0 P fn R) σ w := by
  unfold G
  intro a ha
  have hd := ha.nodef
  simp only [bodyPostM, hd]
  exact leavesM (results_none hr _ _ _) h
theorem G.retK2 {r s D : Nat} {v u : Value} (hr : fn.results = #[.tmp r, .tmp s]) (hv : look1 σ r = some v) (hu : look1 σ s = some u) (hD : w.heap[D]? = some (.deferred (some []))) (h : R (.returned (.tuple #[v, u])) (w.putObj D (.deferred none))) : G ⟨n, [markOf D]⟩ .ret (bodyPostM Fence.wide 0 P fn R) σ w := by
  unfold G
  intro a ha
  have hd := ha.nodef
  simp only [bodyPostM, hd]
  exact leavesM_mark hD (results_tmp2 hr _ _ _) (by rw [ha.get r v hv, ha.get s u hu]; exact h)
/-- a mark's block is shut: cells stand -/
theorem Cx.shut {B D : Nat} {w : World} (hB : B ≤ D) (hD : w.heap[D]? = some (.deferred (some []))) : Cx B w (w.putObj D (.deferred none)) := .put _ hB hD rfl
end
attribute [irreducible] TI TLI

end Go.Eng

set_option linter.unusedSectionVars false
namespace Go.Eng
open Go Go.RowKit
/-- a map's block, by its entries -/
def dpMap (b : Nat) (es : Array MapEntry) (c : Nat) : DP := ⟨fun H => H[b]? = some (.map es c), fun k => k = b,
  fun H k h e => by subst e; exact (Array.getElem?_eq_some_iff.1 h).1, fun H H' hd h => (hd.maps b _ h rfl rfl).trans h⟩
section
variable {P : Program} {N : Fm} {ops : Array Oper} {Q : Exit → Act → World → Prop} {rest : List Oper} {σ : Store} {d : Tmp} {t : TypeId} {pos : String} {af : Array Edge} {S : Nat → Prop} {w0 w w' : World} {L : List VB} {D : List DP}
theorem Fr.map (h : Fr w0 w L D S) {b c : Nat} {es : Array MapEntry} (hm : dpMap b es c ∈ D) : w.heap[b]? = some (.map es c) := h.data _ hm
/-- a map's entries turned -/
theorem Fr.mapUpd {b c c' : Nat} {es es' : Array MapEntry} (hF : Fr w0 w L (dpMap b es c :: D) S) (hb : w0.heap.size ≤ b ∨ S b) (hfree : ∀ x ∈ D, ¬ x.fp b) : Fr w0 (w.putObj b (.map es' c')) L (dpMap b es' c' :: D) S := by
  have hm := hF.map (b := b) (es := es) (c := c) (List.mem_cons_self ..)
  have hlt := (Array.getElem?_eq_some_iff.1 hm).1
  have hne : ∀ v ∈ L, v.b ≠ b := fun v hv e => by
    have h1 := (hF.vars v hv).2
    unfold Vr at h1
    rw [e, hm] at h1
    cases h1
  have hother : ∀ k, k ≠ b → (w.putObj b (.map es' c')).heap[k]? = w.heap[k]? := fun k hk => World.putObj_heap_other hk
  have hsize : (w.putObj b (.map es' c')).heap.size = w.heap.size := World.putObj_size
  refine ⟨⟨hF.exs.os, hF.exs.tape, hF.exs.output, by rw [hsize]; exact hF.exs.size, fun k hk hs => ?_⟩, fun v hv => ⟨(hF.vars v hv).1, ?_⟩, hF.dist, fun x hx => ?_, fun v hv x hx => ?_⟩
  · rw [hother k (fun e => by subst e; exact hb.elim (fun h => absurd h (Nat.not_le_of_gt hk)) hs)]
    exact hF.exs.block k hk hs
  · have h1 := (hF.vars v hv).2
    unfold Vr at h1 ⊢
    rw [hother _ (hne v hv)]; exact h1
  · rcases List.mem_cons.1 hx with rfl | hx
    · unfold dpMap; exact World.putObj_heap_same hlt
    · refine x.st _ _ ⟨Nat.le_of_eq hsize.symm, fun k cs t y hk _ => hother k fun e => ?_, fun k o hk _ hf => hother k fun e => hfree x hx (e ▸ hf)⟩ (hF.data x (List.mem_cons_of_mem _ hx))
      rw [e, hm] at hk; cases hk
  · rcases List.mem_cons.1 hx with rfl | hx
    · unfold dpMap; exact hne v hv
    · exact hF.apart v hv x (List.mem_cons_of_mem _ hx)
end
attribute [irreducible] dpMap
/-! ### Maps by their contents: a list of keys and values, in the order of their entries -/
class UMap (P : Program) (t : TypeId) (k e : outParam TypeId) : Prop where
  out : P.underlying t = some (.map k e)
/-- a type of keys: f x is the key of x -/
class UKey (P : Program) (k : TypeId) (K : outParam Type) (f : outParam (K → Value)) : Prop where
  inj : ∀ x y, f x = f y → x = y
  chk : ∀ b x w, (Instr.checkKey b 10000 k (f x)).run P w = .ok () w
  same : ∀ x, Instr.sameBits 10000 (f x) (f x) = true
  find : ∀ x (es : List MapEntry) (ks : List K) w, es.map (·.key) = ks.map f →
    ((Instr.findKey k (f x) es).run P w = .ok none w ∧ x ∉ ks) ∨ ∃ (i : Nat) (e : MapEntry), (Instr.findKey k (f x) es).run P w = .ok (some (i, e.val)) w ∧ es[i]? = some e ∧ ks[i]? = some x
/-- a place of two numbers -/
def spot (x : Int × Int) : Value := .agg #[.int .i64 x.1, .int .i64 x.2]
theorem spot_inj (x y : Int × Int) (h : spot x = spot y) : x = y := by
  obtain ⟨a, b⟩ := x
  obtain ⟨c, d⟩ := y
  simp [spot] at h
  rw [h.1, h.2]
/-- a struct of two numbers -/
class USpot (P : Program) (k : TypeId) : Prop where
  out : ∃ f g : Field, P.underlying k = some (.struct #[f, g]) ∧ f.name ≠ "_" ∧ g.name ≠ "_" ∧ f.offset = 0 ∧ g.offset = 1 ∧ P.underlying f.type = some (.int .i64) ∧ P.underlying g.type = some (.int .i64) ∧ P.stoodInHeld k = false
theorem run_isAgg_int {P : Program} {t : TypeId} (h : P.underlying t = some (.int .i64)) (w : World) : (isAgg t).run P w = .ok false w := run_isAgg_one ⟨⟨_, h, rfl⟩⟩ w
theorem run_part0 {P : Program} {t : TypeId} (h : P.underlying t = some (.int .i64)) (a b : Value) (w : World) : (part t #[a, b] 0).run P w = .ok a w := by
  simp [part, run_isAgg_int h, Result.andThen]
theorem run_part1 {P : Program} {t : TypeId} (h : P.underlying t = some (.int .i64)) (a b : Value) (w : World) : (part t #[a, b] 1).run P w = .ok b w := by
  simp [part, run_isAgg_int h, Result.andThen]
theorem run_equal_spot {P : Program} {k : TypeId} [h : USpot P k] (x y : Int × Int) (w : World) : (Op.equal k (spot x) (spot y)).run P w = .ok (decide (x = y)) w := by
  obtain ⟨f, g, hu, hf, hg, of, og, uf, ug, hs⟩ := h.out
  have hfs : P.fieldsOf k = #[f, g] := by unfold Program.fieldsOf; rw [hu]
  have h1 := run_equalIn_struct w 9999 k #[.int .i64 x.1, .int .i64 x.2] #[.int .i64 y.1, .int .i64 y.2] (by rw [hfs]; exact hu) hs
  rw [hfs] at h1
  have h2 : (Op.equal k (spot x) (spot y)).run P w = (Op.equalIn (9999 + 1) k (spot x) (spot y)).run P w := rfl
  rw [h2]
  unfold spot
  rw [h1]
  have e1 : (Op.equalIn 9999 f.type (.int .i64 x.1) (.int .i64 y.1)).run P w = .ok (x.1 == y.1) w := run_equalIn_int (P := P) w 9998 f.type .i64 .i64 x.1 y.1 uf
  have e2 : (Op.equalIn 9999 g.type (.int .i64 x.2) (.int .i64 y.2)).run P w = .ok (x.2 == y.2) w := run_equalIn_int (P := P) w 9998 g.type .i64 .i64 x.2 y.2 ug
  obtain ⟨a, b⟩ := x
  obtain ⟨c, d⟩ := y
  simp only at e1 e2
  simp only [Op.eqFields, hf, hg, of, og, Sem.run_bind, run_part0 uf, run_part1 ug, Result.andThen_ok, e1, ne_eq, not_false_eq_true, if_true]
  by_cases ha : a = c
  · subst ha
    by_cases hb : b = d
    · subst hb
      simp [e2, run_part1 ug, Result.andThen]
    · have : (b == d) = false := by simpa using hb
      simp [e2, run_part1 ug, Result.andThen, this, hb]
  · have : (a == c) = false := by simpa using ha
    simp [Result.andThen, this, ha]
theorem run_findAsking_spot {P : Program} {k : TypeId} [h : USpot P k] (x : Int × Int) (w : World) : ∀ (es : List MapEntry) (ks : List (Int × Int)) (n : Nat), es.map (·.key) = ks.map spot →
    ((Instr.findAsking k (spot x) es n).run P w = .ok none w ∧ x ∉ ks) ∨ ∃ (i : Nat) (e : MapEntry), (Instr.findAsking k (spot x) es n).run P w = .ok (some (n + i, e.val)) w ∧ es[i]? = some e ∧ ks[i]? = some x
  | [], [], n, _ => .inl ⟨rfl, by simp⟩
  | [], _ :: _, _, h => by simp at h
  | _ :: _, [], _, h => by simp at h
  | e :: es, y :: ks, n, h => by
    simp only [List.map_cons, List.cons.injEq] at h
    by_cases hx : x = y
    · subst hx
      refine .inr ⟨0, e, ?_, rfl, rfl⟩
      simp [Instr.findAsking, h.1, run_equal_spot, Result.andThen]
    · have hq : (Instr.findAsking k (spot x) (e :: es) n).run P w = (Instr.findAsking k (spot x) es (n + 1)).run P w := by
        simp [Instr.findAsking, h.1, run_equal_spot, Result.andThen, hx]
      rw [hq]
      rcases run_findAsking_spot (P := P) (k := k) x w es ks (n + 1) h.2 with ⟨h1, h2⟩ | ⟨i, e', h1, h2, h3⟩
      · exact .inl ⟨h1, by simp [hx, h2]⟩
      · exact .inr ⟨i + 1, e', by rw [h1, show n + 1 + i = n + (i + 1) by omega], by simpa using h2, by simpa using h3⟩
theorem findNow_spot (fs : Array Field) (x : Int × Int) (e : MapEntry) (es : List MapEntry) : Instr.findNow (.struct fs) (spot x) (e :: es) 0 = none := by
  have : Instr.sameNow (.struct fs) (spot x) e.key = none := by unfold spot Instr.sameNow; cases e.key <;> rfl
  unfold Instr.findNow
  rw [this]
instance {P : Program} {k : TypeId} [h : USpot P k] : UKey P k (Int × Int) spot where
  inj := spot_inj
  chk b x w := by
    obtain ⟨f, g, hu, hf, hg, of, og, uf, ug, hs⟩ := h.out
    have hk : ∀ (t : TypeId) (z : Int), P.underlying t = some (.int .i64) → (Instr.checkKey b 9999 t (.int .i64 z)).run P w = .ok () w := fun t z ht => MapKept.run_checkKey (k := .int .i64 z) ht (show MapKept.IsKey (.int .i64) (.int .i64 z) from rfl) b 9998
    show (Instr.checkKey b (9999 + 1) k (spot x)).run P w = _
    rw [Instr.checkKey]
    simp only [Sem.run_bind, run_underlying hu, Result.andThen_ok, spot]
    rw [← Array.forIn_toList]
    simp only [List.forIn_cons, List.forIn_nil, hf, hg, of, og, Sem.run_bind, run_part0 uf, run_part1 ug, Result.andThen_ok, ne_eq, not_false_eq_true, if_true, hk _ _ uf, hk _ _ ug, Sem.run_pure]
  same x := by
    show Instr.sameBits (9999 + 1) (spot x) (spot x) = true
    simp [spot, Instr.sameBits]
  find x es ks w hks := by
    obtain ⟨f, g, hu, hf, hg, of, og, uf, ug, hs⟩ := h.out
    unfold Instr.findKey
    simp only [Sem.run_bind, run_underlying hu, Result.andThen_ok]
    cases es with
    | nil =>
      cases ks with
      | nil => exact .inl ⟨rfl, by simp⟩
      | cons _ _ => simp at hks
    | cons e es =>
      rw [findNow_spot]
      have := run_findAsking_spot (P := P) (k := k) x w (e :: es) ks 0 hks
      simpa using this
/-- a number -/
def intk (x : Int) : Value := .int .i64 x
instance {P : Program} {k : TypeId} [h : UInt P k .i64] : UKey P k Int intk where
  inj x y h := by simpa [intk] using h
  chk b x w := MapKept.run_checkKey (k := intk x) h.out (show MapKept.IsKey (.int .i64) (.int .i64 x) from rfl) b 9999
  same x := by
    show Instr.sameBits (9999 + 1) (intk x) (intk x) = true
    simp [intk, Instr.sameBits]
  find x es ks w hks := by
    have hk : ∀ y ∈ es, MapKept.IsKey (.int .i64) y.key := fun y hy => by
      have : y.key ∈ es.map (·.key) := List.mem_map.2 ⟨y, hy, rfl⟩
      rw [hks] at this
      obtain ⟨z, _, e⟩ := List.mem_map.1 this
      rw [← e]; rfl
    rcases MapKept.findNow_spec (d := .int .i64) (k := intk x) rfl es 0 hk with ⟨h1, h2⟩ | ⟨j, e, h1, h2, h3⟩
    · refine .inl ⟨MapKept.run_findKey h.out h1, fun hm => ?_⟩
      have : intk x ∈ ks.map intk := List.mem_map.2 ⟨x, hm, rfl⟩
      rw [← hks] at this
      obtain ⟨y, hy, e⟩ := List.mem_map.1 this
      exact h2 y hy e
    · refine .inr ⟨j, e, by rw [MapKept.run_findKey h.out h1, Nat.zero_add], h2, ?_⟩
      have h4 : (es.map (·.key))[j]? = some (intk x) := by rw [List.getElem?_map, h2]; simp [h3]
      rw [hks, List.getElem?_map] at h4
      cases hq : ks[j]? with
      | none => rw [hq] at h4; cases h4
      | some y =>
        rw [hq] at h4
        simp [intk] at h4
        rw [h4]
section
variable {K V : Type} [DecidableEq K]
/-- what stands at a key -/
def lkp : List (K × V) → K → Option V
  | [], _ => none
  | (y, u) :: l, x => if y = x then some u else lkp l x
/-- .. written -/
def ups : List (K × V) → K → V → List (K × V)
  | [], x, v => [(x, v)]
  | (y, u) :: l, x, v => if y = x then (x, v) :: l else (y, u) :: ups l x v
/-- .. taken away -/
def del : List (K × V) → K → List (K × V)
  | [], _ => []
  | (y, u) :: l, x => if y = x then l else (y, u) :: del l x
theorem lkp_none : ∀ {l : List (K × V)} {x : K}, lkp l x = none ↔ x ∉ l.map (·.1)
  | [], x => by simp [lkp]
  | (y, u) :: l, x => by
    by_cases h : y = x
    · subst h; simp [lkp]
    · have := lkp_none (l := l) (x := x)
      simp only [lkp, h, if_false, this, List.map_cons, List.mem_cons, not_or]
      exact ⟨fun h1 => ⟨fun e => h e.symm, h1⟩, fun h1 => h1.2⟩
theorem lkp_mem : ∀ {l : List (K × V)} {x : K} {v : V}, lkp l x = some v → (x, v) ∈ l
  | [], x, v, h => by simp [lkp] at h
  | (y, u) :: l, x, v, h => by
    by_cases hy : y = x
    · subst hy; simp [lkp] at h; subst h; exact List.mem_cons_self ..
    · simp only [lkp, hy, if_false] at h
      exact List.mem_cons_of_mem _ (lkp_mem h)
theorem lkp_of_mem : ∀ {l : List (K × V)}, (l.map (·.1)).Nodup → ∀ {x : K} {v : V}, (x, v) ∈ l → lkp l x = some v
  | [], _, x, v, h => by simp at h
  | (y, u) :: l, hn, x, v, h => by
    simp only [List.map_cons, List.nodup_cons] at hn
    rcases List.mem_cons.1 h with h | h
    · cases h; simp [lkp]
    · have hne : y ≠ x := fun e => hn.1 (e ▸ List.mem_map.2 ⟨_, h, rfl⟩)
      simp only [lkp, hne, if_false]
      exact lkp_of_mem hn.2 h
theorem lkp_ups : ∀ (l : List (K × V)) (x : K) (v : V) (y : K), lkp (ups l x v) y = if x = y then some v else lkp l y
  | [], x, v, y => by simp [ups, lkp]
  | (z, u) :: l, x, v, y => by
    by_cases h : z = x
    · subst h
      simp only [ups, if_true, lkp]
      split <;> rfl
    · simp only [ups, h, if_false, lkp, lkp_ups l x v y]
      by_cases hz : z = y
      · have : ¬ x = y := fun e => h (hz.trans e.symm)
        simp [hz, this]
      · simp [hz]
theorem ups_keys : ∀ (l : List (K × V)) (x : K) (v : V), (ups l x v).map (·.1) = if x ∈ l.map (·.1) then l.map (·.1) else l.map (·.1) ++ [x]
  | [], x, v => by simp [ups]
  | (z, u) :: l, x, v => by
    by_cases h : z = x
    · subst h; simp [ups]
    · have h' : ¬ x = z := fun e => h e.symm
      simp only [ups, h, if_false, List.map_cons, ups_keys l x v, List.mem_cons, h', false_or]
      split <;> rfl
theorem ups_nodup {l : List (K × V)} (hn : (l.map (·.1)).Nodup) (x : K) (v : V) : ((ups l x v).map (·.1)).Nodup := by
  rw [ups_keys]
  split
  · exact hn
  · rename_i h
    refine List.nodup_append.2 ⟨hn, by simp, fun a ha b hb e => ?_⟩
    simp only [List.mem_singleton] at hb
    subst e hb
    exact h ha
theorem ups_length (l : List (K × V)) (x : K) (v : V) : (ups l x v).length = if (lkp l x).isSome then l.length else l.length + 1 := by
  have h : ((ups l x v).map (·.1)).length = (ups l x v).length := List.length_map ..
  rw [← h, ups_keys]
  cases hq : lkp l x with
  | none => simp [lkp_none.1 hq]
  | some u =>
    have : x ∈ l.map (·.1) := List.mem_map.2 ⟨_, lkp_mem hq, rfl⟩
    simp [this]
theorem ups_set : ∀ {l : List (K × V)}, (l.map (·.1)).Nodup → ∀ {i : Nat} {x : K}, (l.map (·.1))[i]? = some x → ∀ v, ups l x v = l.set i (x, v)
  | [], _, i, x, h, v => by simp at h
  | (z, u) :: l, hn, 0, x, h, v => by simp at h; subst h; simp [ups]
  | (z, u) :: l, hn, i + 1, x, h, v => by
    simp only [List.map_cons, List.nodup_cons, List.getElem?_cons_succ] at hn h
    have hne : z ≠ x := fun e => hn.1 (e ▸ List.mem_of_getElem? h)
    simp only [ups, hne, if_false, List.set_cons_succ, ups_set hn.2 h v]
theorem ups_new : ∀ {l : List (K × V)} {x : K}, x ∉ l.map (·.1) → ∀ v, ups l x v = l ++ [(x, v)]
  | [], x, _, v => rfl
  | (z, u) :: l, x, h, v => by
    simp only [List.map_cons, List.mem_cons, not_or] at h
    simp only [ups, fun e => h.1 (Eq.symm e), if_false, ups_new h.2 v, List.cons_append]
    rw [if_neg fun e => h.1 e.symm]
theorem lkp_idx : ∀ {l : List (K × V)}, (l.map (·.1)).Nodup → ∀ {i : Nat} {p : K × V}, l[i]? = some p → lkp l p.1 = some p.2
  | l, hn, i, (x, v), h => lkp_of_mem hn (List.mem_of_getElem? h)
theorem del_idx : ∀ {l : List (K × V)}, (l.map (·.1)).Nodup → ∀ {i : Nat} {x : K}, (l.map (·.1))[i]? = some x → del l x = l.eraseIdx i
  | [], _, i, x, h => by simp at h
  | (z, u) :: l, hn, 0, x, h => by simp at h; subst h; simp [del]
  | (z, u) :: l, hn, i + 1, x, h => by
    simp only [List.map_cons, List.nodup_cons, List.getElem?_cons_succ] at hn h
    have hne : z ≠ x := fun e => hn.1 (e ▸ List.mem_of_getElem? h)
    simp only [del, hne, if_false, List.eraseIdx_cons_succ, del_idx hn.2 h]
theorem del_none : ∀ {l : List (K × V)} {x : K}, x ∉ l.map (·.1) → del l x = l
  | [], x, _ => rfl
  | (z, u) :: l, x, h => by
    simp only [List.map_cons, List.mem_cons, not_or] at h
    unfold del
    rw [if_neg fun e => h.1 e.symm, del_none h.2]
theorem del_sub : ∀ (l : List (K × V)) (x : K), (del l x).Sublist l
  | [], _ => List.Sublist.refl _
  | (z, u) :: l, x => by
    unfold del
    split
    · exact List.sublist_cons_self ..
    · exact (del_sub l x).cons_cons _
theorem del_nodup {l : List (K × V)} (hn : (l.map (·.1)).Nodup) (x : K) : ((del l x).map (·.1)).Nodup := hn.sublist ((del_sub l x).map _)
theorem lkp_del : ∀ {l : List (K × V)}, (l.map (·.1)).Nodup → ∀ (x y : K), lkp (del l x) y = if x = y then none else lkp l y
  | [], _, x, y => by simp [del, lkp]
  | (z, u) :: l, hn, x, y => by
    simp only [List.map_cons, List.nodup_cons] at hn
    by_cases h : z = x
    · subst h
      simp only [del, if_true, lkp]
      by_cases hz : z = y
      · subst hz; simp [lkp_none.2 hn.1]
      · simp [hz]
    · simp only [del, h, if_false, lkp, lkp_del hn.2 x y]
      by_cases hz : z = y
      · have : ¬ x = y := fun e => h (hz.trans e.symm)
        simp [hz, this]
      · simp [hz]
theorem del_length : ∀ (l : List (K × V)) (x : K), (del l x).length = if (lkp l x).isSome then l.length - 1 else l.length
  | [], x => by simp [del, lkp]
  | (z, u) :: l, x => by
    by_cases h : z = x
    · subst h; simp [del, lkp]
    · simp only [del, h, if_false, lkp, List.length_cons, del_length l x]
      cases hq : lkp l x with
      | none => simp
      | some v =>
        have : 0 < l.length := List.length_pos_of_mem (lkp_mem hq)
        simp; omega
end
theorem set_same {α : Type} : ∀ {l : List α} {i : Nat} {x : α}, l[i]? = some x → l.set i x = l
  | [], i, x, h => by simp at h
  | y :: l, 0, x, h => by simp at h; subst h; rfl
  | y :: l, i + 1, x, h => by simp only [List.getElem?_cons_succ] at h; simp only [List.set_cons_succ, set_same h]
theorem map_erase {α β : Type} (f : α → β) : ∀ (l : List α) (j : Nat), (l.eraseIdx j).map f = (l.map f).eraseIdx j
  | [], _ => by simp
  | _ :: _, 0 => by simp
  | a :: r, j + 1 => by simp [map_erase f r j]
/-- a map's entries read as a list -/
structure MpR {K V : Type} (f : K → Value) (g : V → Value) (es : Array MapEntry) (c : Nat) (l : List (K × V)) : Prop where
  map : es.toList.map (fun e => (e.key, e.val)) = l.map (fun p => (f p.1, g p.2))
  born : ∀ x ∈ es.toList, x.born < c
  nodup : (es.toList.map (·.born)).Nodup
  keys : (l.map (·.1)).Nodup
section
variable {K V : Type} {f : K → Value} {g : V → Value} {es : Array MapEntry} {c : Nat} {l : List (K × V)}
theorem MpR.nil (f : K → Value) (g : V → Value) (c : Nat) : MpR f g #[] c [] := ⟨rfl, by simp, by simp, by simp⟩
theorem MpR.len (h : MpR f g es c l) : es.size = l.length := by
  have := congrArg List.length h.map
  simpa using this
theorem MpR.ks (h : MpR f g es c l) : es.toList.map (·.key) = (l.map (·.1)).map f := by
  have := congrArg (List.map Prod.fst) h.map
  simpa [List.map_map, Function.comp_def] using this
theorem MpR.at (h : MpR f g es c l) {i : Nat} {e : MapEntry} (he : es.toList[i]? = some e) : ∃ p, l[i]? = some p ∧ e.key = f p.1 ∧ e.val = g p.2 := by
  have h1 : (es.toList.map (fun e => (e.key, e.val)))[i]? = some (e.key, e.val) := by rw [List.getElem?_map, he]; rfl
  rw [h.map, List.getElem?_map] at h1
  cases hq : l[i]? with
  | none => rw [hq] at h1; cases h1
  | some p =>
    rw [hq] at h1
    simp only [Option.map_some, Option.some.injEq, Prod.mk.injEq] at h1
    exact ⟨p, rfl, h1.1.symm, h1.2.symm⟩
theorem MpR.push (h : MpR f g es c l) {x : K} (hx : x ∉ l.map (·.1)) (v : V) : MpR f g (es.push { key := f x, val := g v, born := c }) (c + 1) (l ++ [(x, v)]) := by
  refine ⟨by simp [h.map], fun y hy => ?_, ?_, ?_⟩
  · simp only [Array.toList_push, List.mem_append, List.mem_singleton] at hy
    rcases hy with hy | rfl
    · exact Nat.lt_succ_of_lt (h.born y hy)
    · exact Nat.lt_succ_self _
  · simp only [Array.toList_push, List.map_append, List.map_cons, List.map_nil]
    refine List.nodup_append.2 ⟨h.nodup, by simp, fun a ha b hb => ?_⟩
    simp only [List.mem_singleton] at hb
    subst hb
    obtain ⟨y, hy, rfl⟩ := List.mem_map.1 ha
    exact Nat.ne_of_lt (h.born y hy)
  · rw [List.map_append]
    refine List.nodup_append.2 ⟨h.keys, by simp, fun a ha b hb e => ?_⟩
    simp only [List.map_cons, List.map_nil, List.mem_singleton] at hb
    subst e hb
    exact hx ha
theorem MpR.mod (h : MpR f g es c l) {i : Nat} {x : K} (hi : (l.map (·.1))[i]? = some x) (v : V) : MpR f g (es.modify i fun e => { e with key := f x, val := g v }) c (l.set i (x, v)) := by
  have hlen := h.len
  have hil : i < l.length := by have := (List.getElem?_eq_some_iff.1 hi).1; simpa using this
  have hset : (es.modify i fun e => { e with key := f x, val := g v }).toList.map (·.born) = es.toList.map (·.born) := by
    refine List.ext_getElem? fun j => ?_
    simp only [List.getElem?_map, Array.getElem?_toList, Array.getElem?_modify]
    by_cases hij : i = j
    · subst hij; cases es[i]? <;> simp
    · simp [hij]
  refine ⟨?_, fun y hy => ?_, by rw [hset]; exact h.nodup, ?_⟩
  · refine List.ext_getElem? fun j => ?_
    have hj : (es.toList.map (fun e => (e.key, e.val)))[j]? = (l.map (fun p => (f p.1, g p.2)))[j]? := by rw [h.map]
    simp only [List.getElem?_map, Array.getElem?_toList, Array.getElem?_modify, List.getElem?_set] at hj ⊢
    by_cases hij : i = j
    · subst hij
      have h1 : i < es.size := by omega
      simp [h1, hil]
    · simp only [hij, if_false]
      exact hj
  · have h1 : y.born ∈ (es.modify i fun e => { e with key := f x, val := g v }).toList.map (·.born) := List.mem_map.2 ⟨y, hy, rfl⟩
    rw [hset] at h1
    obtain ⟨z, hz, e⟩ := List.mem_map.1 h1
    rw [← e]
    exact h.born z hz
  · have : (l.set i (x, v)).map (·.1) = l.map (·.1) := by
      rw [List.map_set]
      exact set_same hi
    rw [this]
    exact h.keys
theorem MpR.era (h : MpR f g es c l) {i : Nat} (hi : i < l.length) : MpR f g (es.eraseIdxIfInBounds i) c (l.eraseIdx i) := by
  have hlen := h.len
  have he : (es.eraseIdxIfInBounds i).toList = es.toList.eraseIdx i := by
    unfold Array.eraseIdxIfInBounds
    rw [dif_pos (by omega)]
    simp
  have hs := List.eraseIdx_sublist es.toList i
  refine ⟨?_, fun x hx => ?_, ?_, ?_⟩
  · rw [he, map_erase, h.map, map_erase]
  · rw [he] at hx; exact h.born x (hs.subset hx)
  · rw [he]; exact h.nodup.sublist (hs.map _)
  · rw [map_erase]; exact h.keys.sublist (List.eraseIdx_sublist ..)
end
/-- a map's block by its contents -/
def dpMp {K V : Type} (f : K → Value) (g : V → Value) (b : Nat) (l : List (K × V)) : DP := ⟨fun H => ∃ es c, H[b]? = some (.map es c) ∧ MpR f g es c l, fun k => k = b,
  fun H k h e => by subst e; obtain ⟨es, c, h, _⟩ := h; exact (Array.getElem?_eq_some_iff.1 h).1, fun H H' hd h => by obtain ⟨es, c, h, hr⟩ := h; exact ⟨es, c, (hd.maps b _ h rfl rfl).trans h, hr⟩⟩
section
variable {P : Program} {N : Fm} {ops : Array Oper} {Q : Exit → Act → World → Prop} {rest : List Oper} {σ : Store} {d : Tmp} {t : TypeId} {pos : String} {af : Array Edge} {S : Nat → Prop} {w0 w w' : World} {L : List VB} {D : List DP} {gd : Option (Nat × Bool)} {do_ : Option Tmp}
variable {K V : Type} [DecidableEq K] {f : K → Value} {g : V → Value} {b : Nat} {l : List (K × V)}
theorem Fr.mp (h : Fr w0 w L D S) (hm : dpMp f g b l ∈ D) : ∃ es c, w.heap[b]? = some (.map es c) ∧ MpR f g es c l := h.data _ hm
theorem TL.makeMpFr (f : K → Value) (g : V → Value) (hF : Fr w0 w L D S) {ty : TypeId} (hd : Nat.blt d N.n = true)
    (K' : ∀ w' b, b = w.heap.size → Fr w0 w' L (dpMp f g b [] :: D) S → TL P N .seq ops Q rest ((d, .map (some b)) :: σ) w') :
    TL P N .seq ops Q (⟨some d, .makeMap ty none, t, pos, af, none⟩ :: rest) σ w := by
  refine TL.op (w' := w.alloc (.map #[] 0)) (fun ρ hρ => ?_) hd (K' _ _ rfl (hF.addNew (ext_alloc _ _) _ (by unfold dpMp; exact ⟨_, _, heap_alloc .., MpR.nil ..⟩) fun k hk => (by unfold dpMp at hk; exact Nat.le_of_eq hk.symm)))
  simp [execOp, Instr.makeMap]
theorem Fr.mpUpd {l' : List (K × V)} {es es' : Array MapEntry} {c c' : Nat} (hF : Fr w0 w L (dpMp f g b l :: D) S) (hb : w0.heap.size ≤ b ∨ S b) (hfree : ∀ x ∈ D, ¬ x.fp b) (hm : w.heap[b]? = some (.map es c)) (hr : MpR f g es' c' l') :
    Fr w0 (w.putObj b (.map es' c')) L (dpMp f g b l' :: D) S := by
  have h0 : Fr w0 w L (dpMap b es c :: D) S := by
    refine Fr.add (hF.weak (List.Sublist.refl _) fun d hd => List.mem_cons_of_mem _ hd) _ (by unfold dpMap; exact hm) fun v hv hk => ?_
    unfold dpMap at hk
    exact hF.apart v hv _ (List.mem_cons_self ..) (by unfold dpMp; exact hk)
  have h1 := h0.mapUpd (c' := c') (es' := es') hb hfree
  refine Fr.add (h1.weak (List.Sublist.refl _) fun d hd => List.mem_cons_of_mem _ hd) _ (by unfold dpMp; exact ⟨_, _, (by have := h1.map (List.mem_cons_self ..); exact this), hr⟩) fun v hv hk => ?_
  exact hF.apart v hv _ (List.mem_cons_self ..) (by unfold dpMp at hk ⊢; exact hk)
/-- where a key is found -/
theorem run_find {k : TypeId} [hK : UKey P k K f] {es : Array MapEntry} {c : Nat} (h : MpR f g es c l) (x : K) (w : World) :
    ((Instr.findKey k (f x) es.toList).run P w = .ok none w ∧ x ∉ l.map (·.1)) ∨ ∃ i v, (Instr.findKey k (f x) es.toList).run P w = .ok (some (i, g v)) w ∧ l[i]? = some (x, v) ∧ ∃ e, es[i]? = some e ∧ e.key = f x := by
  rcases hK.find x es.toList _ w h.ks with h1 | ⟨i, e, h1, h2, h3⟩
  · exact .inl h1
  · obtain ⟨p, hp, hk, hv⟩ := h.at h2
    rw [List.getElem?_map, hp] at h3
    simp only [Option.map_some, Option.some.injEq] at h3
    obtain ⟨a, v⟩ := p
    simp only at h3 hk hv
    subst h3
    exact .inr ⟨i, v, by rw [h1, hv], hp, e, by simpa using h2, hk⟩
theorem ev_mlook (hF : Fr w0 w L D S) {x i : Operand} {ty k e : TypeId} [hT : UMap P ty k e] [hK : UKey P k K f] {z : Value} {sz b1 : Nat} [hS : USize P e z sz b1] {y : K} (hx : look σ x = some (.map (some b))) (hi : look σ i = some (f y)) (hm : dpMp f g b l ∈ D) :
    Ev P σ w.heap ⟨do_, .lookup ty x i false, t, pos, af, gd⟩ ((lkp l y).elim z g) := by
  unfold Ev
  intro ρ w1 hρ hw
  obtain ⟨es, c, hb, hr⟩ := hF.mp hm
  rw [← hw] at hb
  obtain ⟨ii, hii, hz, _⟩ := hS.info
  rcases run_find (P := P) (k := k) hr y w1 with ⟨h1, h2⟩ | ⟨i', v, h1, h2, _⟩
  · rw [lkp_none.2 h2]
    simp [execOp, hρ x _ hx, hρ i _ hi, Instr.lookup, run_underlying hT.out, MapKept.run_getObj_map hb, hK.chk, h1, Result.andThen, zeroValue, typeInfo, hii, hz]
  · rw [lkp_idx hr.keys h2]
    simp [execOp, hρ x _ hx, hρ i _ hi, Instr.lookup, run_underlying hT.out, MapKept.run_getObj_map hb, hK.chk, h1, Result.andThen]
theorem ev_mlookOk (hF : Fr w0 w L D S) {x i : Operand} {ty k e : TypeId} [hT : UMap P ty k e] [hK : UKey P k K f] {z : Value} {sz b1 : Nat} [hS : USize P e z sz b1] {y : K} (hx : look σ x = some (.map (some b))) (hi : look σ i = some (f y)) (hm : dpMp f g b l ∈ D) :
    Ev P σ w.heap ⟨do_, .lookup ty x i true, t, pos, af, gd⟩ (.tuple #[(lkp l y).elim z g, .bool (lkp l y).isSome]) := by
  unfold Ev
  intro ρ w1 hρ hw
  obtain ⟨es, c, hb, hr⟩ := hF.mp hm
  rw [← hw] at hb
  obtain ⟨ii, hii, hz, _⟩ := hS.info
  rcases run_find (P := P) (k := k) hr y w1 with ⟨h1, h2⟩ | ⟨i', v, h1, h2, _⟩
  · rw [lkp_none.2 h2]
    simp [execOp, hρ x _ hx, hρ i _ hi, Instr.lookup, run_underlying hT.out, MapKept.run_getObj_map hb, hK.chk, h1, Result.andThen, zeroValue, typeInfo, hii, hz]
  · rw [lkp_idx hr.keys h2]
    simp [execOp, hρ x _ hx, hρ i _ hi, Instr.lookup, run_underlying hT.out, MapKept.run_getObj_map hb, hK.chk, h1, Result.andThen]
theorem ev_mlen (hF : Fr w0 w L D S) {x : Operand} {ty k e : TypeId} [hT : UMap P ty k e] (hx : look σ x = some (.map (some b))) (hm : dpMp f g b l ∈ D) :
    Ev P σ w.heap ⟨do_, .call { callee := .builtin .len, args := #[x], argTypes := #[ty] }, t, pos, af, gd⟩ (.int .i64 (l.length : Int)) := by
  unfold Ev
  intro ρ w1 hρ hw
  obtain ⟨es, c, hb, hr⟩ := hF.mp hm
  rw [← hw] at hb
  simp [execOp, hρ x _ hx, resolve, invoke, builtin, Builtin.len_, run_underlying hT.out, goInt, MapKept.run_getObj_map hb, Result.andThen, hr.len]
theorem TL.op0v {op : Op} {v : Value} {w' : World} (h : ∀ ρ, Agree σ ρ → (execOp ρ ⟨none, op, t, pos, af, none⟩).run P w = .ok (.value v) w') (k : TL P N .seq ops Q rest σ w') :
    TL P N .seq ops Q (⟨none, op, t, pos, af, none⟩ :: rest) σ w := by
  unfold TL at k ⊢
  intro a ha
  refine wpList_plain rfl fun K hK => ?_
  unfold Oper.wp
  rw [h _ ha.agree]
  exact hK _ _ (k _ (ha.putNone _))
theorem putObj_eq {w : World} {b : Nat} {o : Obj} : w.putObj b o = { w with heap := w.heap.setIfInBounds b o } := rfl
theorem TL.mupd (hF : Fr w0 w L (dpMp f g b l :: D) S) (hb : w0.heap.size ≤ b ∨ S b) (hfree : ∀ x ∈ D, ¬ x.fp b) {x i y : Operand} {ty k e : TypeId} [hT : UMap P ty k e] [hK : UKey P k K f] {q : K} {v : V}
    (hx : look σ x = some (.map (some b))) (hi : look σ i = some (f q)) (hy : look σ y = some (g v)) (K' : ∀ w', Fr w0 w' L (dpMp f g b (ups l q v) :: D) S → TL P N .seq ops Q rest σ w') :
    TL P N .seq ops Q (⟨none, .mapUpdate ty x i y, t, pos, af, none⟩ :: rest) σ w := by
  obtain ⟨es, c, hm, hr⟩ := hF.mp (List.mem_cons_self ..)
  rcases run_find (P := P) (k := k) hr q w with ⟨h1, h2⟩ | ⟨j, u, h1, h2, en, h3, h4⟩
  · refine TL.op0 (fun ρ hρ => ?_) (K' _ (hF.mpUpd hb hfree hm (by rw [ups_new h2]; exact hr.push h2 v)))
    simp [execOp, hρ x _ hx, hρ i _ hi, hρ y _ hy, Instr.mapUpdate, run_underlying hT.out, MapKept.run_getObj_map hm, hK.chk, h1, Result.andThen, MapKept.run_setObj_map _ hm, putObj_eq]
  · have hj : (l.map (·.1))[j]? = some q := by rw [List.getElem?_map, h2]; rfl
    refine TL.op0 (fun ρ hρ => ?_) (K' _ (hF.mpUpd hb hfree hm (by rw [ups_set hr.keys hj]; exact hr.mod hj v)))
    simp [execOp, hρ x _ hx, hρ i _ hi, hρ y _ hy, Instr.mapUpdate, run_underlying hT.out, MapKept.run_getObj_map hm, hK.chk, h1, h3, h4, Instr.keyThatStays, hK.same, Result.andThen, MapKept.run_setObj_map _ hm, putObj_eq]
theorem TL.mdel (hF : Fr w0 w L (dpMp f g b l :: D) S) (hb : w0.heap.size ≤ b ∨ S b) (hfree : ∀ x ∈ D, ¬ x.fp b) {x i : Operand} {ty k e : TypeId} [hT : UMap P ty k e] [hK : UKey P k K f] {q : K}
    (hx : look σ x = some (.map (some b))) (hi : look σ i = some (f q)) (K' : ∀ w', Fr w0 w' L (dpMp f g b (del l q) :: D) S → TL P N .seq ops Q rest σ w') :
    TL P N .seq ops Q (⟨none, .call { callee := .builtin .delete, args := #[x, i], argTypes := #[ty, k] }, t, pos, af, none⟩ :: rest) σ w := by
  obtain ⟨es, c, hm, hr⟩ := hF.mp (List.mem_cons_self ..)
  rcases run_find (P := P) (k := k) hr q w with ⟨h1, h2⟩ | ⟨j, u, h1, h2, en, h3, h4⟩
  · refine TL.op0v (v := .tuple #[]) (fun ρ hρ => ?_) (K' _ (hF.mpUpd hb hfree hm (by rw [del_none h2]; exact hr)))
    simp [execOp, hρ x _ hx, hρ i _ hi, resolve, invoke, builtin, Builtin.delete_, run_underlying hT.out, MapKept.run_getObj_map hm, hK.chk, h1, Result.andThen, MapKept.run_setObj_map _ hm, putObj_eq]
  · have hj : (l.map (·.1))[j]? = some q := by rw [List.getElem?_map, h2]; rfl
    refine TL.op0v (v := .tuple #[]) (fun ρ hρ => ?_) (K' _ (hF.mpUpd hb hfree hm (by rw [del_idx hr.keys hj]; exact hr.era (List.getElem?_eq_some_iff.1 h2).1)))
    simp [execOp, hρ x _ hx, hρ i _ hi, resolve, invoke, builtin, Builtin.delete_, run_underlying hT.out, MapKept.run_getObj_map hm, hK.chk, h1, Result.andThen, MapKept.run_setObj_map _ hm, putObj_eq]
end
attribute [irreducible] dpMp

end Go.Eng
