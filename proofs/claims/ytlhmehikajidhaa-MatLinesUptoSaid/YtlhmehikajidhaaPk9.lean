/- The engine: range over a function: code walked in a round's frame, calls of yield, the statement itself, returns behind it. Layer 9: lists of integers in least form: each. Plain laws of naturals as lists of words to the base 65536, the lowest first. No program in sight. Plain arithmetic: trailing zeros, single digits. Words and digits to the base 65536. The document's answers for layer 1: Split, trim, Join, at, Least, order, Cmp. The document's answers for layer 1: at, Least, order, Cmp, Add. -/
import Derived.Test.YtlhmehikajidhaaPk8
import Derived.RangeFuncLeaves
import Derived.RangeFuncSeq
import Derived.RangeFuncOwn
import Derived.TacticsIn
import Derived.Test.YtlhmehikajidhaaPk5
import Derived.Test.YtlhmehikajidhaaPk4
import Derived.Test.YtlhmehikajidhaaPk3
set_option linter.unusedVariables false
set_option linter.unusedSimpArgs false
namespace Go.Eng
open Go Go.RowKit

section
variable {P : Program} {N : Fm} {Q : Exit → Act → World → Prop} {σ : Store} {S : Nat → Prop} {w0 w : World} {L : List VB} {D : List DP} {l : List Oper}
/-- .. a drawn region in which the newest block may be written -/
theorem T.regionFt {v : VB} (hF : Fr w0 w (v :: L) D S) (id : Nat) (f : Nat) (t : Rt) (hm : P.follows .mixedOrders = true) (hB : treeB l.toArray f t = true)
    (h : ∀ w1 : World, Fr w0 w1 (v :: L) D S → TF P N l Q (fun w' => Fr w0 w' L D S) f t σ w1) : T P N (.region id l.toArray true) Q σ w :=
  T.regionF _ f t hm hB ((hF.weak (List.Sublist.cons _ (List.Sublist.refl _)) allR).exts (ext_drewN w 1)) (h _ (hF.exts (ext_drewN w 1)))
end
/-- the fence that lets all in, in a round or not -/
def wideR (R : Option Nat) : Fence := { Fence.wide with round := R }
theorem calls_in {R : Option Nat} {n : Nat} {P : Program} {f : FuncId} {args : Array Value} {w : World} {Q : Ending → World → Prop} (h : Calls P f args w Q) : CallsIn (wideR R) n P f args w Q :=
  callsIn_wide (n := n).2 h
theorem rows_in {R : Option Nat} {n : Nat} {P : Program} {row : String} {args : Array Value} {w : World} {Q : Value → World → Prop} (h : Rows P row args w Q) : RowsIn (wideR R) n P row args w Q :=
  fun c cs _ => let ⟨v, w', r, s⟩ := h c cs; ⟨v, w', r, (stepsIn_wide (P := P)).2 s⟩
theorem upon_in {R : Option Nat} {n : Nat} {P : Program} {o : Oper} {a : Act} {next next' : Act → World → Prop} {Q Q' : Exit → Act → World → Prop} {r : Result Next} (hn : ∀ a w, next a w → next' a w) (hq : ∀ c a w, Q (.panic c) a w → Q' (.panic c) a w) (hl : ∀ a w, Q .outgrown a w → Q' .outgrown a w)
    (h : o.upon P a next Q r) : o.uponIn (wideR R) n P a next' Q' r := by
  unfold Oper.upon at h
  unfold Oper.uponIn
  split at h
  · exact hn _ _ h
  · exact hn _ _ h
  · exact hn _ _ h
  · refine ⟨fun e => (by cases e), calls_in (h.mono ?_)⟩
    intro e w' he
    cases e with
    | returned v => exact hn _ _ he
    | panicked c => exact hq _ _ _ he
    | outgrown => obtain ⟨a0, w0, h0⟩ := he; exact ⟨a0, w0, hl _ _ h0⟩
  · exact ⟨fun e => (by cases e), rows_in (h.mono fun v w' he => hn _ _ he)⟩
  · exact hq _ _ _ h
  · exact h.elim
def noDefer (o : Oper) : Bool := match o.op with
  | .defer _ => false
  | _ => true
theorem wp_in {R : Option Nat} {n : Nat} {P : Program} {o : Oper} {a : Act} {w : World} {next next' : Act → World → Prop} {Q Q' : Exit → Act → World → Prop} (hd : noDefer o = true) (hn : ∀ a w, next a w → next' a w) (hq : ∀ c a w, Q (.panic c) a w → Q' (.panic c) a w) (hl : ∀ a w, Q .outgrown a w → Q' .outgrown a w)
    (h : o.wp P a w next Q) : o.wpIn (wideR R) n P a w next' Q' := by
  refine ⟨fun _ _ => trivial, ?_⟩
  rw [Oper.semAt_eq _ _ _ (fun c e => by unfold noDefer at hd; rw [e] at hd; cases hd)]
  exact upon_in hn hq hl h
/-- no way that outgrows the memory is let out -/
def NoOut (Q : Exit → Act → World → Prop) : Prop := ∀ a w, ¬ Q .outgrown a w
theorem NoOut.lets {Q : Exit → Act → World → Prop} (h : NoOut Q) : ¬ LetsOut Q := fun ⟨a, w, hq⟩ => h a w hq
theorem list_in {R : Option Nat} {n : Nat} {P : Program} {ops : Array Oper} {Q : Exit → Act → World → Prop} (hno : NoOut Q) : ∀ (l : List Oper) (a : Act) (w : World), l.all noDefer = true → wpList P ops Q l a w → wpListIn (wideR R) n P ops Q l a w
  | [], a, w, _, h => h
  | o :: rest, a, w, hd, h => by
    simp only [List.all_cons, Bool.and_eq_true] at hd
    unfold wpListIn
    unfold wpList at h
    by_cases hw : Region.wanted o (yielded ops a.tmps) = true
    · rw [if_pos hw] at h ⊢
      rcases h with h | h
      · exact wp_in hd.1 (fun a w h => list_in hno rest a w hd.2 h) (fun _ _ _ h => h) (fun _ _ h => h) h
      · exact absurd h.2 hno.lets
    · rw [if_neg hw] at h ⊢
      exact ⟨fun _ _ => trivial, list_in hno rest _ w hd.2 h⟩

section
variable (P : Program) (R : Option Nat) (N : Fm)
/-- a piece of code, in a round's frame or not -/
def TI (c : Code) (Q : Exit → Act → World → Prop) (σ : Store) (w : World) : Prop := NoOut Q → ∀ a, Rep N σ a → c.wpIn (wideR R) 0 P Q a w
/-- operations of a region, in a round's frame or not -/
def TLI (ops : Array Oper) (Q : Exit → Act → World → Prop) (l : List Oper) (σ : Store) (w : World) : Prop := NoOut Q → ∀ a, Rep N σ a → wpListIn (wideR R) 0 P ops Q l a w
/-- the code that comes next -/
def Kc (c : Code) (Q : Exit → Act → World → Prop) (a : Act) (w : World) : Prop := NoOut Q → c.wpIn (wideR R) 0 P Q a w
def Kl (ops : Array Oper) (Q : Exit → Act → World → Prop) (l : List Oper) (a : Act) (w : World) : Prop := NoOut Q → wpListIn (wideR R) 0 P ops Q l a w
end
section
variable {P : Program} {R : Option Nat} {N : Fm} {Q : Exit → Act → World → Prop} {σ : Store} {w : World} {ops : Array Oper} {rest : List Oper}
theorem TI.ofT {c : Code} (h : T P N c Q σ w) : TI P none N c Q σ w := by unfold T at h; exact fun _ a ha => wpIn_wide.2 (h a ha)
theorem TI.is {c : Code} (h : TI P R N c Q σ w) : TI P R N c Q σ w := h
theorem TI.seq {x y : Code} (h : TI P R N x (Exit.then (Kc P R y Q) Q) σ w) : TI P R N (x.seq y) Q σ w := fun hno a ha => wpIn_seq (wpIn_mono (h hno a ha) fun e a w hq => by
  cases e with
  | normal => exact hq hno
  | _ => exact hq)
theorem TI.skip (h : G N .normal Q σ w) : TI P R N .skip Q σ w := by unfold G at h; exact fun _ a ha => wpIn_skip (h a ha)
theorem TI.exit {id : Nat} (h : G N (.exit id) Q σ w) : TI P R N (.exit id) Q σ w := by unfold G at h; exact fun _ a ha => wpIn_exit (h a ha)
theorem TI.ret (h : G N .ret Q σ w) : TI P R N .ret Q σ w := by unfold G at h; exact fun _ a ha => wpIn_ret (h a ha)
theorem TI.block {id : Nat} {c : Code} (h : TI P R N c (Exit.inBlock id Q) σ w) : TI P R N (.block id c) Q σ w := fun hno a ha => wpIn_block (h hno a ha)
theorem TI.cond_t {c : Operand} {x y : Code} (hc : look σ c = some (.bool true)) (h : TI P R N x Q σ w) : TI P R N (.cond c x y) Q σ w :=
  fun hno a ha => wpIn_cond_true (ha.agree _ _ hc) (h hno a ha)
theorem TI.cond_f {c : Operand} {x y : Code} (hc : look σ c = some (.bool false)) (h : TI P R N y Q σ w) : TI P R N (.cond c x y) Q σ w :=
  fun hno a ha => wpIn_cond_false (ha.agree _ _ hc) (h hno a ha)
theorem TI.sub {c : Code} {σ' : Store} (hs : Sub σ' σ) (h : TI P R N c Q σ' w) : TI P R N c Q σ w := fun hno a ha => h hno a (ha.sub hs)
theorem TI.region {id : Nat} {l : List Oper} (hd : l.all noDefer = true) (h : TL P N .seq l.toArray Q l σ w) : TI P R N (.region id l.toArray false) Q σ w := by
  unfold TL at h
  exact fun hno a ha => wpIn_region_lit (list_in hno _ _ _ hd (h a ha))
theorem TI.regionI {id : Nat} {l : List Oper} (h : TLI P R N l.toArray Q l σ w) : TI P R N (.region id l.toArray false) Q σ w := fun hno a ha => wpIn_region_lit (h hno a ha)
theorem TLI.is {l : List Oper} (h : TLI P R N ops Q l σ w) : TLI P R N ops Q l σ w := h
theorem YieldAt.weak {F : Fence} {m : Nat} {P : Program} {l : Nat} {args : Array Value} {W : World} {R R' : Ending → World → Prop} (h : YieldAt F m P l args W R) (hr : ∀ e w, R e w → R' e w) : YieldAt F m P l args W R' := by
  obtain ⟨fn, tmps, assign, body, hy, hR⟩ := h
  exact ⟨fn, tmps, assign, body, hy, RoundIn.mono hR hr⟩
theorem TLI.nil (h : G N .normal Q σ w) : TLI P R N ops Q [] σ w := by unfold G at h; exact fun _ a ha => h a ha
theorem TLI.step {o : Oper} (hd : noDefer o = true) (h : TL P N .seq ops (Exit.then (Kl P R ops Q rest) Q) [o] σ w) : TLI P R N ops Q (o :: rest) σ w := by
  intro hno a ha
  unfold TL at h
  have h1 := h a ha
  simp only [wpList] at h1
  unfold wpListIn
  by_cases hw : Region.wanted o (yielded ops a.tmps) = true
  · rw [if_pos hw] at h1 ⊢
    rcases h1 with h1 | h1
    · exact wp_in hd (fun a w h => h hno) (fun _ _ _ h => h) (fun _ _ h => h) h1
    · exact absurd h1.2 (NoOut.lets (Q := Exit.then (Kl P R ops Q rest) Q) hno)
  · rw [if_neg hw] at h1 ⊢
    exact ⟨fun _ _ => trivial, h1 hno⟩
theorem G.nextL (h : TLI P R N ops Q rest σ w) : G N .normal (Exit.then (Kl P R ops Q rest) Q) σ w := by unfold G; exact fun a ha hno => h hno a ha
theorem G.nextI {y : Code} (h : TI P R N y Q σ w) : G N .normal (Exit.then (Kc P R y Q) Q) σ w := by unfold G; exact fun a ha hno => h hno a ha
theorem exec_yield {ρ : Operand → Value} {l : Nat} {x : Operand} {xs : List Operand} {tys : Array TypeId} {vs : List Value} {dd : Option Tmp} {t : TypeId} {pos : String} {af : Array Edge} {gd : Option (Nat × Bool)} {r : Next} (hρ : Agree σ ρ) (hf : look σ x = some (.func (.yield l) #[] #[])) (hx : looks σ xs = some vs)
    (hy : (Instr.yield l vs.toArray).run P w = .ok r w) : (execOp ρ ⟨dd, .call { callee := .value x, args := xs.toArray, argTypes := tys }, t, pos, af, gd⟩).run P w = .ok r w := by
  have e := hρ.list xs vs hx
  have ef := hρ x _ hf
  simp [execOp, resolve, ef, Deferred.ofValue, invoke, e, hy]
/-- a call of yield -/
theorem TLI.yield {l : Nat} {d : Nat} {x : Operand} {xs : List Operand} {tys : Array TypeId} {vs : List Value} {t : TypeId} {pos : String} {af : Array Edge} (hf : look σ x = some (.func (.yield l) #[] #[])) (hx : looks σ xs = some vs) (hd : Nat.blt d N.n = true)
    (k : YieldAt Fence.wide 0 P l vs.toArray w fun e w' => ∃ v, e = .returned v ∧ TLI P R N ops Q rest ((d, v) :: σ) w') :
    TLI P R N ops Q (⟨some d, .call { callee := .value x, args := xs.toArray, argTypes := tys }, t, pos, af, none⟩ :: rest) σ w := by
  obtain ⟨fn, tmps, assign, body, hy, hR⟩ := k
  intro hno a ha
  refine wpListIn_plain rfl fun K hK => ⟨fun _ _ => trivial, ?_⟩
  rw [Oper.semAt_eq _ _ _ (fun c e => by cases e), exec_yield ha.agree hf hx hy, Oper.uponIn_round]
  refine ⟨fun e => (by cases e), RoundIn.mono (F := wideR R) hR ?_⟩
  rintro e w' ⟨v, rfl, hk⟩
  exact hK _ _ (hk hno _ (ha.put hd v))
theorem TI.loop {α : Type} {c : Code} (st : α → Store) (I : α → World → Prop) (μ : α → Nat) (x0 : α) (hs : Sub (st x0) σ) (h0 : I x0 w)
    (round : ∀ x w, I x w → TI P R N c (Exit.then (fun a' w' => ∃ x', Rep N (st x') a' ∧ I x' w' ∧ μ x' < μ x) Q) (st x) w) : TI P R N (.loop c) Q σ w := by
  intro hno a ha b k cs hro hb hr
  have key : ∀ j x a w, μ x = j → Rep N (st x) a → I x w →
      ∃ e a' w', Q e a' w' ∧ ArrivesIn (Machine.fenced P (wideR R)) P (lone (b.atR a (.code c :: .inLoop c :: k)) cs w) b k cs e a' w' := by
    intro j
    induction j using Nat.strongRecOn with
    | _ j ih =>
      intro x a w hx hrr hI
      obtain ⟨e, a₁, w₁, hq, harr⟩ := round x w hI hno a hrr b (.inLoop c :: k) cs hro hb hr
      cases e with
      | normal =>
        obtain ⟨x', hr', hI', hlt⟩ := hq
        obtain ⟨e₂, a₂, w₂, hq₂, harr₂⟩ := ih (μ x') (hx ▸ hlt) x' a₁ w₁ rfl hr' hI'
        exact ⟨e₂, a₂, w₂, hq₂, .of_steps (StepsIn.trans harr (.one (fenced_calm (n := 0) hb hr rfl) stepR_inLoop)) harr₂⟩
      | exit id => exact ⟨_, a₁, w₁, hq, .pass (x := .inLoop c) rfl (fun _ _ => .inl (by simp)) harr⟩
      | goto l => exact ⟨_, a₁, w₁, hq, .pass (x := .inLoop c) rfl (fun _ _ => .inl (by simp)) harr⟩
      | ret => exact ⟨_, a₁, w₁, hq, .pass (x := .inLoop c) rfl (fun _ _ => .inl (by simp)) harr⟩
      | panic ch => exact ⟨_, a₁, w₁, hq, .pass (x := .inLoop c) rfl (fun _ _ => .inl (by simp)) harr⟩
      | outgrown => exact ⟨_, a₁, w₁, hq, .pass (x := .inLoop c) rfl (fun _ _ => .inl (by simp)) harr⟩
  obtain ⟨e, a', w', hq, harr⟩ := key _ x0 a w rfl (ha.sub hs) h0
  exact ⟨e, a', w', hq, .of_steps (.one (fenced_calm (n := 0) hb hr rfl) stepR_loop) harr⟩
end

/-! ### Worlds behind the loop's book-keeping -/
/-- cells stand, and all that lay below B -/
def keepsObj : Obj → Bool
  | .cells .. => true
  | .map .. => true
  | .mapIter .. => true
  | _ => false
theorem keepsObj_map {o : Obj} (h : mapO o = true) : keepsObj o = true := by cases o <;> first | rfl | cases h
structure Cx (B : Nat) (w w' : World) : Prop where
  os : w'.os = w.os
  tape : w'.tape = w.tape
  output : w'.output = w.output
  size : w.heap.size ≤ w'.heap.size
  low : ∀ k, k < B → k < w.heap.size → w'.heap[k]? = w.heap[k]?
  cells : ∀ (k : Nat) (o : Obj), w.heap[k]? = some o → keepsObj o = true → w'.heap[k]? = w.heap[k]?
theorem Cx.refl (B : Nat) (w : World) : Cx B w w := ⟨rfl, rfl, rfl, Nat.le_refl _, fun _ _ _ => rfl, fun _ _ _ _ => rfl⟩
theorem Cx.of {B : Nat} {w w' : World} (h : Ext w w') : Cx B w w' := ⟨h.os, h.tape, h.output, h.size, fun k _ hk => h.block k hk, fun k o hk _ => h.block k (Array.getElem?_eq_some_iff.1 hk).1⟩
theorem Cx.trans {B : Nat} {a b c : World} (h : Cx B a b) (k : Cx B b c) : Cx B a c :=
  ⟨k.os.trans h.os, k.tape.trans h.tape, k.output.trans h.output, Nat.le_trans h.size k.size, fun i hi hl => (k.low i hi (Nat.lt_of_lt_of_le hl h.size)).trans (h.low i hi hl),
    fun i o hi ho => by have h1 := h.cells i o hi ho; exact (k.cells i o (h1.trans hi) ho).trans h1⟩
theorem Cx.put {B : Nat} {w : World} {l : Nat} {o : Obj} (o' : Obj) (hl : B ≤ l) (h : w.heap[l]? = some o) (ho : keepsObj o = false) : Cx B w (w.putObj l o') :=
  ⟨rfl, rfl, rfl, Nat.le_of_eq World.putObj_size.symm, fun k hk _ => World.putObj_heap_other (by omega), fun k x hk hx => World.putObj_heap_other (fun e => by subst e; rw [h] at hk; cases hk; rw [ho] at hx; cases hx)⟩
theorem Cx.mono {B B' : Nat} {w w' : World} (h : Cx B w w') (hB : B' ≤ B) : Cx B' w w' := ⟨h.os, h.tape, h.output, h.size, fun k hk => h.low k (Nat.lt_of_lt_of_le hk hB), h.cells⟩
theorem Cx.ext {w0 w w' : World} {B : Nat} (h : Ext w0 w) (k : Cx B w w') (hB : w0.heap.size ≤ B) : Ext w0 w' :=
  ⟨k.os.trans h.os, k.tape.trans h.tape, k.output.trans h.output, Nat.le_trans h.size k.size, fun i hi => (k.low i (Nat.lt_of_lt_of_le hi hB) (Nat.lt_of_lt_of_le hi h.size)).trans (h.block i hi)⟩
theorem Cx.de {F : Nat → Prop} {B : Nat} {w w' : World} (k : Cx B w w') : DE F w.heap w'.heap := ⟨k.size, fun i cs t x hi _ => k.cells i _ hi rfl, fun i o hi ho _ => k.cells i _ hi (keepsObj_map ho)⟩
section
variable {S : Nat → Prop} {w0 w w' W : World} {L : List VB} {D : List DP} {B : Nat}
theorem Fr.cx (h : Fr w0 w L D S) (k : Cx B w w') (hB : w0.heap.size ≤ B) : Fr w0 w' L D S :=
  ⟨⟨k.os.trans h.exs.os, k.tape.trans h.exs.tape, k.output.trans h.exs.output, Nat.le_trans h.exs.size k.size, fun i hi hs => (k.low i (Nat.lt_of_lt_of_le hi hB) (Nat.lt_of_lt_of_le hi h.exs.size)).trans (h.exs.block i hi hs)⟩,
    fun v hv => ⟨(h.vars v hv).1, by have h1 := (h.vars v hv).2; unfold Vr at h1 ⊢; exact (k.cells _ _ h1 rfl).trans h1⟩, h.dist, fun d hd => d.st _ _ k.de (h.data d hd), h.apart⟩
/-- a new first world: what stood at w0 stands at W, and S names blocks of cells that are not older than w0 -/
structure Opn (w0 W : World) (S : Nat → Prop) : Prop where
  ext : Ext w0 W
  lo : ∀ k, S k → w0.heap.size ≤ k
  cells : ∀ k, S k → ∃ o : Obj, W.heap[k]? = some o ∧ o.isCells = true
/-- from W on -/
theorem Fr.open (h : Fr w0 W L D) : ∃ S, Opn w0 W S ∧ Fr W W L D S :=
  ⟨fun k => ∃ v ∈ L, v.b = k, ⟨h.ext, fun k ⟨v, hv, e⟩ => by rcases (h.vars v hv).1 with h1 | h1; exact e ▸ h1; exact h1.elim, fun k ⟨v, hv, e⟩ => ⟨_, e ▸ (h.vars v hv).2, rfl⟩⟩,
    Exs.refl _ _, fun v hv => ⟨.inr ⟨v, hv, rfl⟩, (h.vars v hv).2⟩, h.dist, h.data, h.apart⟩
theorem Fr.outer (hO : Opn w0 W S) (h : Fr W w L D S) : Ext w0 w :=
  ⟨h.exs.os.trans hO.ext.os, h.exs.tape.trans hO.ext.tape, h.exs.output.trans hO.ext.output, Nat.le_trans hO.ext.size h.exs.size, fun k hk => (h.exs.block k (Nat.lt_of_lt_of_le hk hO.ext.size) (fun hs => by have := hO.lo k hs; omega)).trans (hO.ext.block k hk)⟩
theorem Fr.shut (hO : Opn w0 W S) (h : Fr W w L D S) : Fr w0 w L D :=
  ⟨.of (h.outer hO), fun v hv => ⟨.inl (by rcases (h.vars v hv).1 with h1 | h1; exact Nat.le_trans hO.ext.size h1; exact hO.lo _ h1), (h.vars v hv).2⟩, h.dist, h.data, h.apart⟩
theorem Fr.others (hO : Opn w0 W S) (h : Fr W w L D S) : KeepsOthers W w :=
  ⟨h.exs.size, fun k o hk ho => (h.exs.block k (Array.getElem?_eq_some_iff.1 hk).1 (fun hs => by obtain ⟨o', h1, h2⟩ := hO.cells k hs; rw [hk] at h1; cases h1; rw [ho] at h2; cases h2)).trans hk⟩
end

/-! ### The statement -/
/-- the rounds' parameters laid into the store -/
def putAll : List Nat → List Value → Store → Store
  | p :: ps, v :: vs, σ => putAll ps vs ((p, v) :: σ)
  | _, _, σ => σ
theorem Rep.fold {N : Fm} : ∀ (ps : List Nat) (vs : List Value) {σ : Store} {a : Act}, Rep N σ a → ps.all (fun p => Nat.blt p N.n) = true → Rep N (putAll ps vs σ) { a with tmps := (ps.zip vs).foldl (fun t (x : Nat × Value) => t.setIfInBounds x.1 x.2) a.tmps }
  | [], vs, σ, a, h, _ => by simpa [putAll] using h
  | p :: ps, [], σ, a, h, _ => by simpa [putAll] using h
  | p :: ps, v :: vs, σ, a, h, hp => by
    simp only [List.all_cons, Bool.and_eq_true] at hp
    have := Rep.fold ps vs (h.put hp.1 v) hp.2
    simpa [putAll, Act.put] using this
/-- an iterator's contract: it calls yield m times, with arguments that meet Fx, as long as It is kept; J i: i rounds are over; Jx: a round has said no -/
def Iter (P : Program) (gf : FuncId) (cap : List Value) {β : Type} (args : β → List Value) (m : Nat) (It : World → Prop) (Fx : Nat → β → World → World → Prop) : Prop :=
  ∀ (l : Nat) (J : Nat → World → Prop) (Jx : World → Prop) (W : World), (∀ i W W', J i W → Ext W W' → J i W') → (∀ W W', Jx W → Ext W W' → Jx W') → It W → J 0 W →
    (∀ i x Wb W1, i < m → J i Wb → It Wb → Ext Wb W1 → Fx i x Wb W1 → YieldAt Fence.wide 0 P l (args x).toArray W1 fun e W' => (e = .returned (.bool true) ∧ J (i + 1) W' ∧ It W') ∨ (e = .returned (.bool false) ∧ Jx W')) →
    Calls P gf (Value.func (.yield l) #[] #[] :: cap).toArray W fun e W' => (∃ v, e = .returned v) ∧ ((J m W' ∧ It W') ∨ Jx W')
/-- how the body of a round may be left -/
def RPost (I : World → Prop) (Ix : Code → World → Prop) (W : World) : Exit → Act → World → Prop
  | .normal, _, w' => KeepsOthers W w' ∧ I w'
  | .ret, _, w' => KeepsOthers W w' ∧ Ix .ret w'
  | .exit id, _, w' => KeepsOthers W w' ∧ Ix (.exit id) w'
  | _, _, _ => False
/-- behind the assignment to the loop's left sides -/
def Begun (P : Program) (B l : Nat) (body : Code) (I : World → Prop) (Ix : Code → World → Prop) (W : World) (a₁ : Act) (w₁ : World) : Prop :=
  KeepsOthers W w₁ ∧ ∀ w₂, Cx B w₁ w₂ → (∃ r, w₂.heap[l]? = some (.loop r)) → body.wpIn (wideR (some l)) 0 P (RPost I Ix w₂) a₁ w₂
def markOf (D : Nat) : Deferred := { target := .collected D, args := #[] }
theorem TI.rangeFunc {P : Program} {n : Nat} {Q : Exit → Act → World → Prop} {σ : Store} {w : World} {g : Operand} {ps : List Nat} {assign body : Code} {gf : FuncId} {cap : List Value} {β : Type} {args : β → List Value} {m : Nat} {It : World → Prop} {Fx : Nat → β → World → World → Prop}
    (hIt : Iter P gf cap args m It Fx) (hg : look σ g = some (.func (.func gf) #[] cap.toArray)) (hfn : IsFn P gf) (hps : ∀ x, (args x).length = ps.length) (hpn : ps.all (fun p => Nat.blt p n) = true)
    (it0 : It w) (hItc : ∀ W W', It W → Cx w.heap.size W W' → It W')
    (I : Nat → World → Prop) (Ix : Code → World → Prop) (hI : ∀ i W W', I i W → Cx w.heap.size W W' → I i W') (hIx : ∀ c W W', Ix c W → Cx w.heap.size W W' → Ix c W') (h0 : I 0 w)
    (hround : ∀ l i x Wb W, i < m → w.heap.size + 1 ≤ l → (∃ r, W.heap[l]? = some (.loop r)) → I i Wb → It Wb → Ext Wb W → Fx i x Wb W → TI P (some l) ⟨n, []⟩ assign (Exit.then (Begun P w.heap.size l body (fun w' => I (i + 1) w' ∧ It w') Ix W) (fun _ _ _ => False)) (putAll ps (args x) σ) W)
    (hdone : ∀ D w', w.heap.size ≤ D → w'.heap[D]? = some (.deferred (some [])) → I m w' → It w' → G ⟨n, [markOf D]⟩ .normal Q σ w')
    (hstop : ∀ D c w', w.heap.size ≤ D → w'.heap[D]? = some (.deferred (some [])) → Ix c w' → TI P none ⟨n, [markOf D]⟩ c Q σ w') :
    TI P none ⟨n, []⟩ (.rangeFunc g ps.toArray assign body) Q σ w := by
  intro hno a ha
  refine wpIn_rangeFunc (F := wideR none) (n := 0) ?_
  intro fn _
  have hnd : a.defers = [] := ha.nodef
  obtain ⟨rec, hrec⟩ : ∃ rec : LoopState → Option Code → Loop, rec = fun st pe => { state := st, pending := pe, fn, tmps := a.tmps, params := ps.toArray, assign, body, defers := w.heap.size } := ⟨_, rfl⟩
  obtain ⟨W1, hW1⟩ : ∃ W1, (w.alloc (.deferred (some []))).alloc (.loop (rec .ready none)) = W1 := ⟨_, rfl⟩
  have hE1 : Ext w W1 := by rw [← hW1]; exact Ext.trans (ext_alloc _ _) (ext_alloc _ _)
  have hL1 : W1.heap[w.heap.size + 1]? = some (.loop (rec .ready none)) := by
    rw [← hW1]; have := World.alloc_heap_new (w.alloc (.deferred (some []))) (.loop (rec .ready none)); rwa [World.size_alloc] at this
  have hK1 : W1.heap[w.heap.size]? = some (.deferred (some [])) := by
    rw [← hW1]; exact (Below.heap_alloc _ _ _ (by simp)).trans (World.alloc_heap_new w _)
  have ef := ha.agree _ _ hg
  refine ⟨w.heap.size + 1, [markOf w.heap.size], W1, { target := .fn (.func gf) cap.toArray, args := #[.func (.yield (w.heap.size + 1)) #[] #[]] }, W1, gf,
    (Value.func (.yield (w.heap.size + 1)) #[] #[] :: cap).toArray, W1, ?_, ?_, fun _ _ => trivial, ?_, fun e => (by cases e), ?_⟩
  · rw [← hW1, hrec]; exact run_enterLoop_outer _ _ _ _ _
  · simp only [resolve, ef]
    simp [go_sem]
  · simp [invoke, run_callFunc_enter hfn]
  · have recE : ∀ {W W' : World} {o : Obj} {k : Nat}, W.heap[k]? = some o → Ext W W' → W'.heap[k]? = some o := fun h hE => (hE.block _ (Array.getElem?_eq_some_iff.1 h).1).trans h
    refine calls_in ((hIt (w.heap.size + 1) (fun i W => I i W ∧ W.heap[w.heap.size + 1]? = some (.loop (rec .ready none)) ∧ W.heap[w.heap.size]? = some (.deferred (some [])))
      (fun W => ∃ c, Ix c W ∧ W.heap[w.heap.size + 1]? = some (.loop (rec .done (some c))) ∧ W.heap[w.heap.size]? = some (.deferred (some []))) W1
      (fun i W W' h hE => ⟨hI i W W' h.1 (.of hE), recE h.2.1 hE, recE h.2.2 hE⟩) (fun W W' ⟨c, h⟩ hE => ⟨c, hIx c W W' h.1 (.of hE), recE h.2.1 hE, recE h.2.2 hE⟩)
      (hItc _ _ it0 (.of hE1)) ⟨hI _ _ _ h0 (.of hE1), hL1, hK1⟩ ?_).mono ?_)
    · rintro i x Wb W hi ⟨hi0, hl, hk⟩ hit hEb hfx
      replace hl := recE hl hEb
      replace hk := recE hk hEb
      have hlt : w.heap.size + 1 < W.heap.size := (Array.getElem?_eq_some_iff.1 hl).1
      have hy := run_yield (P := P) (args := (args x).toArray) hl (by rw [hrec]; simpa using hps x)
      rw [hrec] at hy
      refine ⟨fn, _, assign, body, hy, roundIn_of_wpIn (F := Fence.wide) (n := 0) trivial ?_⟩
      have hrep : Rep ⟨n, []⟩ (putAll ps (args x) σ) { tmps := (ps.toArray.zip (args x).toArray).foldl (fun t (x : Nat × Value) => t.setIfInBounds x.1 x.2) a.tmps, defers := [] } := by
        have := Rep.fold ps (args x) ha hpn
        rw [hnd] at this
        simpa [List.zip_toArray] using this
      refine wpIn_mono (hround (w.heap.size + 1) i x Wb W hi (Nat.le_refl _) ⟨_, hl⟩ hi0 hit hEb hfx (fun _ _ h => h) _ hrep) ?_
      rintro e a₁ w₁ hq
      cases e with
      | normal =>
        obtain ⟨hk1, hbody⟩ := hq
        have hl1 := hk1.same _ _ hl rfl
        have hd1 := hk1.same _ _ hk rfl
        have hlt1 := (Array.getElem?_eq_some_iff.1 hl1).1
        refine ⟨_, run_beginRound hl1 (by rw [hrec]), ?_⟩
        have hc2 : Cx w.heap.size w₁ (w₁.putObj (w.heap.size + 1) (.loop { rec .ready none with state := .busy })) := .put _ (by omega) hl1 rfl
        have hl2 : (w₁.putObj (w.heap.size + 1) (.loop { rec .ready none with state := .busy })).heap[w.heap.size + 1]? = some (.loop { rec .ready none with state := .busy }) := World.putObj_heap_same hlt1
        have hk2 : (w₁.putObj (w.heap.size + 1) (.loop { rec .ready none with state := .busy })).heap[w.heap.size]? = some (.deferred (some [])) := (World.putObj_heap_other (by omega)).trans hd1
        refine wpIn_mono (hbody _ hc2 ⟨_, hl2⟩) ?_
        have fin : ∀ (jump : Option Code) (W3 : World), KeepsOthers (w₁.putObj (w.heap.size + 1) (.loop { rec .ready none with state := .busy })) W3 →
            ∃ W4, (Instr.endRound (w.heap.size + 1) jump).run P W3 = .ok (.bool jump.isNone) W4 ∧ Cx w.heap.size W3 W4 ∧
            W4.heap[w.heap.size + 1]? = some (.loop (rec (if jump.isNone then .ready else .done) jump)) ∧ W4.heap[w.heap.size]? = some (.deferred (some [])) := fun jump W3 hk3 => by
          have hl3 := hk3.same _ _ hl2 rfl
          have := run_endRound (P := P) jump hl3
          refine ⟨_, this, .put _ (by omega) hl3 rfl, ?_, (World.putObj_heap_other (by omega)).trans (hk3.same _ _ hk2 rfl)⟩
          rw [World.putObj_heap_same (Array.getElem?_eq_some_iff.1 hl3).1, hrec]
        rintro e a3 W3 hp
        cases e with
        | normal =>
          obtain ⟨W4, hr, hc4, hl4, hk4⟩ := fin none W3 hp.1
          exact ⟨_, _, hr, .inl ⟨rfl, ⟨hI _ _ _ hp.2.1 hc4, hl4, hk4⟩, hItc _ _ hp.2.2 hc4⟩⟩
        | ret =>
          obtain ⟨W4, hr, hc4, hl4, hk4⟩ := fin (some .ret) W3 hp.1
          exact ⟨_, _, hr, .inr ⟨rfl, .ret, hIx _ _ _ hp.2 hc4, hl4, hk4⟩⟩
        | exit id =>
          obtain ⟨W4, hr, hc4, hl4, hk4⟩ := fin (some (.exit id)) W3 hp.1
          exact ⟨_, _, hr, .inr ⟨rfl, .exit id, hIx _ _ _ hp.2 hc4, hl4, hk4⟩⟩
        | goto t => exact hp.elim
        | panic ch => exact hp.elim
        | outgrown => exact hp.elim
      | _ => exact hq.elim
    · rintro e W2 ⟨⟨v, rfl⟩, (⟨⟨hi, hl, hk⟩, hit⟩ | ⟨c, hi, hl, hk⟩)⟩
      · have hc : Cx w.heap.size W2 (W2.putObj (w.heap.size + 1) (.loop { rec .ready none with state := .exhausted })) := .put _ (by omega) hl rfl
        have hq := hdone w.heap.size _ (Nat.le_refl _) ((World.putObj_heap_other (by omega)).trans hk) (hI _ _ _ hi hc) (hItc _ _ hit hc)
        unfold G at hq
        refine ⟨none, _, (run_endLoop (P := P) hl (by rw [hrec]; simp)).trans (congrArg (fun x => Result.ok x _) (show (rec .ready none).pending = none by rw [hrec])), ?_⟩
        exact hq _ ⟨ha.size, by simp [hnd], ha.get⟩
      · have hc : Cx w.heap.size W2 (W2.putObj (w.heap.size + 1) (.loop { rec .done (some c) with state := .exhausted })) := .put _ (by omega) hl rfl
        refine ⟨some c, _, (run_endLoop (P := P) hl (by rw [hrec]; simp)).trans (congrArg (fun x => Result.ok x _) (show (rec .done (some c)).pending = some c by rw [hrec])), ?_⟩
        exact hstop w.heap.size c _ (Nat.le_refl _) ((World.putObj_heap_other (by omega)).trans hk) (hIx _ _ _ hi hc) hno _ ⟨ha.size, by simp [hnd], ha.get⟩

/-! ### Functions that hold such a statement, and iterators -/
section
variable {P : Program} {n : Nat} {σ : Store} {w : World} {fn : Func} {R : Ending → World → Prop}
theorem enterM {f : FuncId} {fn : Func} {c : Code} {vs : List Value} {R : Ending → World → Prop} (hf : P.funcs[f]? = some fn) (hb : fn.body = some c) {n : Nat} (hn : fn.ntmps = n) (hl : Nat.ble vs.length n = true) (hR : ∀ w', ¬ R .outgrown w')
    (h : TI P none ⟨n, []⟩ c (bodyPostM Fence.wide 0 P fn R) (argStore 0 vs) w) : Cl P f vs.toArray w R := by
  refine Cl.of (callsIn_wide (n := 0) |>.1 (callsIn_of_wp_marks hf hb trivial (h (fun _ w' h => hR w' h) _ ⟨?_, rfl, fun i v hv => ?_⟩)))
  · have := Nat.le_of_ble_eq_true hl
    simp [hn]; omega
  · obtain ⟨_, h2⟩ := look_argStore vs 0 i v hv
    rw [Nat.sub_zero] at h2
    have hi := (List.getElem?_eq_some_iff.1 h2).1
    simp only [Array.getD_eq_getD_getElem?]
    rw [Array.getElem?_append_left (by simpa using hi)]
    simp [h2]
theorem leavesM {tmps : Array Value} {v : Value} (hr : (results fn tmps).run P w = .ok v w) (h : R (.returned v) w) : LeavesInM Fence.wide 0 P fn tmps R [] .returning w := ⟨v, hr, h⟩
theorem leavesM_mark {tmps : Array Value} {v : Value} {D : Nat} (hD : w.heap[D]? = some (.deferred (some []))) (hr : (results fn tmps).run P (w.putObj D (.deferred none)) = .ok v (w.putObj D (.deferred none))) (h : R (.returned v) (w.putObj D (.deferred none))) :
    LeavesInM Fence.wide 0 P fn tmps R [markOf D] .returning w := ⟨by simp, .inl ⟨_, _, rfl, run_takeDeferred hD, leavesM hr h⟩⟩
theorem G.retM0 (hr : fn.results = #[]) (h : R (.returned (.tuple #[])) w) : G ⟨n, []⟩ .ret (bodyPostM Fence.wide 0 P fn R) σ w := by
  unfold G
  intro a ha
  have hd := ha.nodef
  simp only [bodyPostM, hd]
  exact leavesM (results_none hr _ _ _) h
theorem G.endM0 (hr : fn.results = #[]) (h : R (.returned (.tuple #[])) w) : G ⟨n, []⟩ .normal (bodyPostM Fence.wide 0 P fn R) σ w := by
  unfold G
  intro a ha
  have hd := ha.nodef
  simp only [bodyPostM, hd]
  exact leavesM (results_none hr _ _ _) h
/-- a mark's block is shut: cells stand -/
theorem Cx.shut {B D : Nat} {w : World} (hB : B ≤ D) (hD : w.heap[D]? = some (.deferred (some []))) : Cx B w (w.putObj D (.deferred none)) := .put _ hB hD rfl
end
attribute [irreducible] TI TLI

end Go.Eng

namespace Go.Proofs.Ytlhmehikajidhaa
open Go Go.Eng Go.Proofs Go.NatM Go.RowKit

theorem ivc_noV (l : List IV) : (l.flatMap ivc).all noU64 = true := by
  have := ivc_all l [] rfl
  rwa [List.append_nil] at this
/-- the first i of a list are Z, in least form, of at most K words -/
def LsK (i : Nat) (l : List IV) (Z : Nat → Int) (K : Nat) (H : Array Obj) : Prop := ∀ q, q < i → LI H (Z q) (l.getD q default) ∧ (l.getD q default).m.n ≤ K
def dpLK (i : Nat) (l : List IV) (Z : Nat → Int) (K : Nat) : DP := ⟨LsK i l Z K, fun _ => False, fun _ _ _ h => h.elim, fun _ _ hd h q hq => ⟨(h q hq).1.de hd, (h q hq).2⟩⟩
section
variable {S : Nat → Prop} {w0 w w' : World} {L : List VB} {D : List DP}
theorem Fr.addLK (h : Fr w0 w L D S) {i : Nat} {l : List IV} {Z : Nat → Int} {K : Nat} (k : LsK i l Z K w.heap) : Fr w0 w L (dpLK i l Z K :: D) S := h.add _ k fun _ _ h => h
theorem Fr.lk (h : Fr w0 w L D S) {i : Nat} {l : List IV} {Z : Nat → Int} {K : Nat} (hm : dpLK i l Z K ∈ D) : LsK i l Z K w.heap := h.data _ hm
end
attribute [irreducible] dpLK

theorem LsK.set {H : Array Obj} {l : List IV} {Z : Nat → Int} {i K : Nat} {u : IV} (h : LsK i l Z K H) (hi : i < l.length) (hu : LI H (Z i) u) (hn : u.m.n ≤ K) : LsK (i + 1) (l.set i u) Z K H := by
  intro q hq
  by_cases e : q = i
  · subst e
    have e1 : (l.set q u).getD q default = u := by simp [List.getD, hi]
    rw [e1]; exact ⟨hu, hn⟩
  · have e1 : (l.set i u).getD q default = l.getD q default := by simp [List.getD, List.getElem?_set_ne (fun h => e h.symm)]
    rw [e1]; exact h q (by omega)
/-- a list in memory: the numbers Z in least form, of at most K words each -/
structure LL (H : Array Obj) (A : Option Addr) (n k : Nat) (l : List IV) (Z : Nat → Int) (K : Nat) : Prop where
  s : Sm 2 ivc H H.size A n k l
  g : LsK n l Z K H
theorem LL.ext {w w' : World} {A : Option Addr} {n k K : Nat} {l : List IV} {Z : Nat → Int} (hE : Ext w w') (h : LL w.heap A n k l Z K) : LL w'.heap A n k l Z K := ⟨(h.s.ext hE).size, fun q hq => ⟨(h.g q hq).1.ext hE, (h.g q hq).2⟩⟩
theorem LL.de {H H' : Array Obj} {A : Option Addr} {n k K : Nat} {l : List IV} {Z : Nat → Int} (hd : DE (fpA A n) H H') (h : LL H A n k l Z K) : LL H' A n k l Z K := ⟨Sm.deS (fun _ h => h) hd h.s, fun q hq => ⟨(h.g q hq).1.de hd, (h.g q hq).2⟩⟩
/-- the list lies in a block that is not older than w -/
def LF (w : World) (A : Option Addr) (n : Nat) : Prop := n = 0 ∨ ∃ b, A = some ⟨b, 0, none⟩ ∧ w.heap.size ≤ b
end Go.Proofs.Ytlhmehikajidhaa

namespace Go.N16

def U64 (l : List Nat) : Prop := ∀ x ∈ l, x < 65536
def val : List Nat → Nat
  | [] => 0
  | x :: l => x + 65536 * val l
/-- how many words up to the highest that is not 0 -/
def sz : List Nat → Nat
  | [] => 0
  | x :: l => if sz l = 0 ∧ x = 0 then 0 else sz l + 1
/-- the words of a number, without zeros at the high end -/
def dig (n : Nat) : List Nat := if h : n = 0 then [] else (n % 65536) :: dig (n / 65536)
termination_by n
decreasing_by exact Nat.div_lt_self (by omega) (by omega)

theorem U64.nil : U64 [] := fun x h => by cases h
theorem U64.cons {x : Nat} {l : List Nat} (h : x < 65536) (hl : U64 l) : U64 (x :: l) := fun y hy => by
  rcases List.mem_cons.1 hy with rfl | hy
  · exact h
  · exact hl y hy
theorem U64.head {x : Nat} {l : List Nat} (h : U64 (x :: l)) : x < 65536 := h x (by simp)
theorem U64.tail {x : Nat} {l : List Nat} (h : U64 (x :: l)) : U64 l := fun y hy => h y (by simp [hy])
theorem U64.append {l r : List Nat} (h : U64 l) (k : U64 r) : U64 (l ++ r) := fun y hy => (List.mem_append.1 hy).elim (h y) (k y)
theorem U64.take {l : List Nat} (h : U64 l) (n : Nat) : U64 (l.take n) := fun y hy => h y (List.mem_of_mem_take hy)
theorem U64.drop {l : List Nat} (h : U64 l) (n : Nat) : U64 (l.drop n) := fun y hy => h y (List.mem_of_mem_drop hy)
theorem U64.replicate (n : Nat) : U64 (List.replicate n 0) := fun y hy => by rw [(List.mem_replicate.1 hy).2]; omega
theorem U64.one {x : Nat} (h : x < 65536) : U64 [x] := U64.cons h U64.nil
theorem U64.getD {l : List Nat} (h : U64 l) (k : Nat) : l.getD k 0 < 65536 := by
  rcases Nat.lt_or_ge k l.length with hk | hk
  · have : l.getD k 0 = l[k] := by simp [List.getD, hk]
    rw [this]; exact h _ (List.getElem_mem hk)
  · simp [List.getD, List.getElem?_eq_none hk]
theorem U64.set {l : List Nat} (h : U64 l) (k x : Nat) (hx : x < 65536) : U64 (l.set k x) := fun y hy => by
  rcases List.mem_or_eq_of_mem_set hy with hy | rfl
  · exact h y hy
  · exact hx

theorem getD_ge {l : List Nat} {j : Nat} (h : l.length ≤ j) : l.getD j 0 = 0 := by simp [List.getD, List.getElem?_eq_none h]
theorem sz_le (l : List Nat) : sz l ≤ l.length := by
  induction l with
  | nil => simp [sz]
  | cons x l ih => simp only [sz, List.length_cons]; split <;> omega
theorem sz_eq (l : List Nat) (n : Nat) (h1 : n ≤ l.length) (h2 : ∀ j, n ≤ j → l.getD j 0 = 0) (h3 : n = 0 ∨ l.getD (n - 1) 0 ≠ 0) : sz l = n := by
  induction l generalizing n with
  | nil => simp at h1; simp [sz, h1]
  | cons x l ih =>
    rcases n with _ | n
    · have hx : x = 0 := by simpa using h2 0 (by omega)
      have : sz l = 0 := ih 0 (by omega) (fun j _ => by simpa using h2 (j + 1) (by omega)) (.inl rfl)
      simp [sz, this, hx]
    · have hl : sz l = n := by
        refine ih n (by simpa using h1) (fun j hj => by simpa using h2 (j + 1) (by omega)) ?_
        rcases n with _ | n
        · exact .inl rfl
        · right; simpa using h3.resolve_left (by omega)
      simp only [sz]
      rw [if_neg]
      · omega
      · rintro ⟨h0, hx⟩
        have : n = 0 := by omega
        subst this
        simp [hx] at h3
theorem sz_top (l : List Nat) : sz l = 0 ∨ l.getD (sz l - 1) 0 ≠ 0 := by
  induction l with
  | nil => simp [sz]
  | cons x l ih =>
    simp only [sz]
    split
    · exact .inl rfl
    · rename_i h
      right
      rcases Nat.eq_zero_or_pos (sz l) with h0 | h0
      · have hx : x ≠ 0 := fun hx => h ⟨h0, hx⟩
        simp [h0, hx]
      · rcases ih with h1 | h1
        · omega
        · rw [show sz l + 1 - 1 = (sz l - 1) + 1 by omega]; simpa using h1
theorem sz_zero (l : List Nat) (j : Nat) (h : sz l ≤ j) : l.getD j 0 = 0 := by
  induction l generalizing j with
  | nil => simp
  | cons x l ih =>
    simp only [sz] at h
    split at h
    · rename_i h0
      rcases j with _ | j
      · simpa using h0.2
      · simpa using ih j (by omega)
    · rcases j with _ | j
      · omega
      · simpa using ih j (by omega)

theorem val_append (l r : List Nat) : val (l ++ r) = val l + 65536 ^ l.length * val r := by
  induction l with
  | nil => simp [val]
  | cons x l ih => simp only [List.cons_append, val, ih, List.length_cons, Nat.pow_succ, Nat.mul_add, Nat.add_assoc]; congr 2; rw [← Nat.mul_assoc, Nat.mul_comm 65536]
theorem val_one (x : Nat) : val [x] = x := by simp [val]
theorem val_snoc (l : List Nat) (x : Nat) : val (l ++ [x]) = val l + 65536 ^ l.length * x := by rw [val_append, val_one]
theorem val_zeros (n : Nat) : val (List.replicate n 0) = 0 := by
  induction n with
  | zero => rfl
  | succ n ih => simp [List.replicate_succ, val, ih]
theorem val_take_succ (l : List Nat) (i : Nat) : val (l.take (i + 1)) = val (l.take i) + 65536 ^ i * l.getD i 0 := by
  rcases Nat.lt_or_ge i l.length with h | h
  · rw [List.take_succ_eq_append_getElem h, val_snoc]
    simp [List.getD, h, Nat.min_eq_left (Nat.le_of_lt h)]
  · rw [List.take_of_length_le h, List.take_of_length_le (by omega), getD_ge h]; simp
theorem val_lt {l : List Nat} (h : U64 l) : val l < 65536 ^ l.length := by
  induction l with
  | nil => simp [val]
  | cons x l ih =>
    have h1 := ih h.tail
    have h2 := h.head
    simp only [val, List.length_cons, Nat.pow_succ]
    have h3 : val l + 1 ≤ 65536 ^ l.length := h1
    have h4 := Nat.mul_le_mul_left 65536 h3
    rw [Nat.mul_comm (65536 ^ l.length)]
    omega
theorem val_sz (l : List Nat) : val (l.take (sz l)) = val l := by
  induction l with
  | nil => rfl
  | cons x l ih =>
    simp only [sz]
    split
    · rename_i h
      rw [h.1] at ih
      simp only [List.take_zero, val] at ih ⊢
      rw [← ih, h.2]
    · simp only [List.take_succ_cons, val, ih]
theorem val_take_ge (l : List Nat) (k : Nat) (h : sz l ≤ k) : val (l.take k) = val l := by
  have e : l = l.take k ++ l.drop k := (List.take_append_drop k l).symm
  have h0 : val (l.drop k) = 0 := by
    have : l.drop k = List.replicate (l.drop k).length 0 := by
      apply List.ext_getElem
      · simp
      · intro i h1 h2
        have hz := sz_zero l (k + i) (by omega)
        simp only [List.getElem_drop, List.getElem_replicate]
        rw [List.length_drop] at h1
        have hki : k + i < l.length := by omega
        have : l.getD (k + i) 0 = l[k + i] := by simp [List.getD, hki]
        omega
    rw [this, val_zeros]
  conv => rhs; rw [e, val_append, h0]
  simp

theorem dig_zero : dig 0 = [] := by rw [dig]; simp
theorem dig_pos {n : Nat} (h : n ≠ 0) : dig n = (n % 65536) :: dig (n / 65536) := by rw [dig]; simp [h]
theorem val_dig (n : Nat) : val (dig n) = n := by
  induction n using Nat.strongRecOn with
  | _ n ih =>
    rcases Nat.eq_zero_or_pos n with rfl | h
    · rw [dig_zero]; rfl
    · rw [dig_pos (by omega), val, ih _ (Nat.div_lt_self h (by omega))]; omega
theorem U64_dig (n : Nat) : U64 (dig n) := by
  induction n using Nat.strongRecOn with
  | _ n ih =>
    rcases Nat.eq_zero_or_pos n with rfl | h
    · rw [dig_zero]; exact U64.nil
    · rw [dig_pos (by omega)]; exact U64.cons (Nat.mod_lt _ (by omega)) (ih _ (Nat.div_lt_self h (by omega)))
/-- the words up to the highest that is not 0 are the digits of the number -/
theorem take_sz {l : List Nat} (h : U64 l) : l.take (sz l) = dig (val l) := by
  induction l with
  | nil => simp [sz, val, dig_zero]
  | cons x l ih =>
    have hx := h.head
    have ih' := ih h.tail
    simp only [sz, val]
    split
    · rename_i h0
      rw [h0.1] at ih'
      have hv : val l = 0 := by rw [← val_sz l, h0.1]; rfl
      rw [h0.2, hv]; simp [dig_zero]
    · rename_i h0
      have hne : x + 65536 * val l ≠ 0 := by
        intro he
        have hx0 : x = 0 := by omega
        have hv : val l = 0 := by omega
        apply h0
        refine ⟨?_, hx0⟩
        rcases sz_top l with h1 | h1
        · exact h1
        · rw [hv, dig_zero] at ih'
          have := congrArg List.length ih'
          rw [List.length_take, List.length_nil] at this
          have := sz_le l
          omega
      rw [dig_pos hne, List.take_succ_cons, ih']
      congr 1
      · omega
      · congr 1; omega
theorem dig_length {l : List Nat} (h : U64 l) : (dig (val l)).length = sz l := by rw [← take_sz h, List.length_take]; have := sz_le l; omega
theorem dig_length_le {n k : Nat} (h : n < 65536 ^ k) : (dig n).length ≤ k := by
  induction k generalizing n with
  | zero => have : n = 0 := by simpa using h
            rw [this, dig_zero]; simp
  | succ k ih =>
    rcases Nat.eq_zero_or_pos n with rfl | h0
    · rw [dig_zero]; simp
    · rw [dig_pos (by omega), List.length_cons]
      have := ih (n := n / 65536) (by rw [Nat.div_lt_iff_lt_mul (by omega)]; rw [Nat.pow_succ] at h; exact h)
      omega
/-- a list of so many words more is not below -/
theorem pow_le_val {l : List Nat} (h : sz l ≠ 0) : 65536 ^ (sz l - 1) ≤ val l := by
  rw [← val_sz l]
  obtain ⟨k, hk⟩ : ∃ k, sz l = k + 1 := ⟨sz l - 1, by omega⟩
  have ht := (sz_top l).resolve_left h
  rw [hk, val_take_succ]
  rw [hk] at ht
  simp only [Nat.add_sub_cancel] at ht ⊢
  have : 65536 ^ k * 1 ≤ 65536 ^ k * l.getD k 0 := Nat.mul_le_mul_left _ (by omega)
  omega
theorem val_lt_sz {l : List Nat} (h : U64 l) : val l < 65536 ^ sz l := by
  have := val_lt (h.take (sz l))
  rw [val_sz, List.length_take, Nat.min_eq_left (sz_le l)] at this
  exact this
theorem lt_of_sz_lt {l r : List Nat} (hl : U64 l) (h : sz l < sz r) : val l < val r :=
  Nat.lt_of_lt_of_le (val_lt_sz hl) (Nat.le_trans (Nat.pow_le_pow_right (by omega) (by omega)) (pow_le_val (by omega)))
/-- a new word behind what is done, before zeros -/
theorem set_zeros (D : List Nat) (r x : Nat) : (D ++ List.replicate (r + 1) 0).set D.length x = (D ++ [x]) ++ List.replicate r 0 := by
  rw [List.set_append_right _ _ (Nat.le_refl _), Nat.sub_self, List.replicate_succ, List.set_cons_zero, List.append_assoc]; rfl
theorem val_ext {a b : List Nat} (h : ∀ j, a.getD j 0 = b.getD j 0) : val a = val b := by
  induction a generalizing b with
  | nil =>
    induction b with
    | nil => rfl
    | cons y b ih =>
      have h0 := h 0
      have := ih fun j => by simpa using h (j + 1)
      simp at h0
      simp [val, ← h0, ← this]
  | cons x a ih =>
    cases b with
    | nil =>
      have h0 := h 0
      have := ih (b := []) fun j => by simpa using h (j + 1)
      simp at h0
      simp [val, h0, this]
    | cons y b =>
      have h0 := h 0
      have := ih (b := b) fun j => by simpa using h (j + 1)
      simp at h0
      simp [val, h0, this]
theorem getD_drop (l : List Nat) (k j : Nat) : (l.drop k).getD j 0 = l.getD (k + j) 0 := by simp [List.getD, List.getElem?_drop]
theorem val_split (l : List Nat) (k : Nat) : val l = val (l.take k) + 65536 ^ k * val (l.drop k) := by
  induction k generalizing l with
  | zero => simp [val]
  | succ k ih =>
    cases l with
    | nil => simp [val]
    | cons x l =>
      have := ih l
      simp only [List.take_succ_cons, List.drop_succ_cons, val, this, Nat.pow_succ]
      rw [Nat.mul_add, Nat.add_assoc, Nat.mul_comm (65536 ^ k) 65536, Nat.mul_assoc]
theorem val_drop (l : List Nat) (k : Nat) : val (l.drop k) = l.getD k 0 + 65536 * val (l.drop (k + 1)) := by
  rcases Nat.lt_or_ge k l.length with h | h
  · rw [List.drop_eq_getElem_cons h, val]; simp [List.getD, h]
  · rw [List.drop_of_length_le h, List.drop_of_length_le (by omega), getD_ge h]; rfl
theorem U64.take_lt {l : List Nat} (h : U64 l) (k : Nat) : val (l.take k) < 65536 ^ k :=
  Nat.lt_of_lt_of_le (val_lt (h.take k)) (Nat.pow_le_pow_right (by omega) (by rw [List.length_take]; omega))
/-- the highest place at which two lists differ decides -/
theorem val_lt_of {a b : List Nat} (ha : U64 a) (k : Nat) (h1 : ∀ j, k < j → a.getD j 0 = b.getD j 0) (h2 : a.getD k 0 < b.getD k 0) : val a < val b := by
  have e : val (a.drop (k + 1)) = val (b.drop (k + 1)) := val_ext fun j => by rw [getD_drop, getD_drop]; exact h1 _ (by omega)
  have l1 := ha.take_lt k
  rw [val_split a k, val_split b k, val_drop a k, val_drop b k, e]
  generalize val (b.drop (k + 1)) = q
  generalize 65536 ^ k = p at l1 ⊢
  have : p * (a.getD k 0 + 65536 * q) + p ≤ p * (b.getD k 0 + 65536 * q) := by
    rw [← Nat.mul_succ]
    exact Nat.mul_le_mul_left _ (by omega)
  omega
def cmp3 (m n : Nat) : Int := if m < n then -1 else if n < m then 1 else 0
theorem add_step {p vD va vb s c' x y c : Nat} (h : vD + p * c = va + vb) (e : s + 65536 * c' = x + y + c) :
    vD + p * s + p * 65536 * c' = (va + p * x) + (vb + p * y) := by
  have e1 : p * (s + 65536 * c') = p * (x + y + c) := by rw [e]
  rw [Nat.mul_add, Nat.mul_add, Nat.mul_add, ← Nat.mul_assoc] at e1
  omega
theorem sub_step {p vD va vb s c' x y c : Nat} (h : vD + vb = va + p * c) (e : s + y + c = x + 65536 * c') :
    (vD + p * s) + (vb + p * y) = (va + p * x) + p * 65536 * c' := by
  have e1 : p * (s + y + c) = p * (x + 65536 * c') := by rw [e]
  rw [Nat.mul_add, Nat.mul_add, Nat.mul_add, ← Nat.mul_assoc] at e1
  omega
end Go.N16

namespace Go.NatM

def tz (n : Nat) : Nat := if h : n = 0 then 0 else if n % 2 = 1 then 0 else tz (n / 2) + 1
termination_by n
decreasing_by omega
end Go.NatM

namespace Go.NatM
open Go

/-- the first k digits of a word -/
def fourK (x k : Nat) : List Nat := (List.range k).map fun j => x / 65536 ^ j % 65536
theorem fourK_succ (x k : Nat) : fourK x (k + 1) = fourK x k ++ [x / 65536 ^ k % 65536] := by simp [fourK, List.range_succ]
theorem U_fourK (x k : Nat) : N16.U64 (fourK x k) := by
  intro y hy
  simp only [fourK, List.mem_map] at hy
  obtain ⟨j, _, rfl⟩ := hy
  exact Nat.mod_lt _ (by omega)
theorem val_fourK {x : Nat} (h : x < 18446744073709551616) : N16.val (fourK x 4) = x := by
  have e : fourK x 4 = [x % 65536, x / 65536 % 65536, x / 4294967296 % 65536, x / 281474976710656 % 65536] := by
    simp [fourK, List.range_succ]
  rw [e]
  simp only [N16.val]; omega
theorem W_four : (18446744073709551616 : Nat) = 65536 ^ 4 := by decide
theorem W_pow4 (i : Nat) : (65536 : Nat) ^ (4 * i) = 18446744073709551616 ^ i := by rw [Nat.pow_mul, W_four]
theorem part16_succ (T : List Nat) (m r : Nat) : N16.val ((T.drop m).take (r + 1)) = T.getD m 0 + 65536 * N16.val ((T.drop (m + 1)).take r) := by
  rcases Nat.lt_or_ge m T.length with h | h
  · rw [List.drop_eq_getElem_cons h, List.take_succ_cons, N16.val]
    simp [List.getD, h]
  · rw [N16.getD_ge h, List.drop_of_length_le h, List.drop_of_length_le (by omega)]
    simp [N16.val]
theorem part16_lt {T : List Nat} (h : N16.U64 T) (m r : Nat) : N16.val ((T.drop m).take r) < 65536 ^ r := N16.U64.take_lt (h.drop m) r
theorem take16_four (T : List Nat) (q : Nat) : N16.val (T.take (4 * (q + 1))) = N16.val (T.take (4 * q)) + 18446744073709551616 ^ q * N16.val ((T.drop (4 * q)).take 4) := by
  have e := N16.val_split (T.take (4 * (q + 1))) (4 * q)
  rw [List.take_take, Nat.min_eq_left (by omega), List.drop_take, show 4 * (q + 1) - 4 * q = 4 by omega, W_pow4] at e
  exact e
theorem join_end {T L : List Nat} {q : Nat} (hT : N16.sz T = T.length) (hL : U64 L) (hq : L.length = q) (hv : val L = N16.val T) (h1 : T.length ≤ 4 * q) (h2 : 4 * q < T.length + 4) : L = dig (N16.val T) := by
  rw [← hv]
  rcases Nat.eq_zero_or_pos T.length with h0 | h0
  · have : L = [] := List.eq_nil_of_length_eq_zero (by omega)
    subst this
    rw [show val [] = 0 by rfl, dig_zero]
  · have h3 : 65536 ^ (T.length - 1) ≤ N16.val T := by
      have := N16.pow_le_val (l := T) (by omega)
      rwa [hT] at this
    have h4 : q ≤ sz L := by
      rcases Nat.lt_or_ge (sz L) q with h | h
      · have h5 := val_lt_sz hL
        have h6 : (18446744073709551616 : Nat) ^ sz L ≤ 65536 ^ (T.length - 1) := by
          rw [← W_pow4]; exact Nat.pow_le_pow_right (by omega) (by omega)
        omega
      · exact h
    have h5 := take_sz hL
    rw [List.take_of_length_le (by omega)] at h5
    exact h5
end Go.NatM

namespace Go.Proofs.Ytlhmehikajidhaa
open Go Go.Eng Go.Proofs Go.NatM Go.RowKit

/-- a new list of small digits, of at most K -/
def RetI (w : World) (L : List Nat) (K : Nat) (e : Ending) (w' : World) : Prop := ∃ A n c, e = .returned (.slice A n c) ∧ Ow n64v w'.heap w.heap.size 3 A n c L ∧ Ext w w' ∧ n ≤ K
theorem RetI.mk {w w' : World} {L : List Nat} {A : Option Addr} {n c K : Nat} (h : Ow n64v w'.heap w.heap.size 3 A n c L) (he : Ext w w') (hk : n ≤ K) : RetI w L K (.returned (.slice A n c)) w' := ⟨A, n, c, rfl, h, he, hk⟩

theorem rtrim_ok (H : Array Obj) (B : Nat) (A : Option Addr) (n c : Nat) (l : List Nat) (hs : Sl n64v H B A n c l) (hn : n < 9223372036854775808) :
    Pure Try.prog 91 #[.slice A n c] H (.slice A (N16.sz l) c) := by
  refine Pure.of fun w hw => ?_
  subst hw
  have hlen := hs.len
  have hcap := hs.cap
  refine enter Try.func91 rfl rfl rfl ?_
  repeat' (first | refine TL.ev (ev_simple rfl) rfl ?_ | refine TL.ev (ev_len rfl) rfl ?_ | refine T.seq ?_ | refine T.region ?_ | refine TL.nil ?_ | refine T.block ?_ | refine G.next ?_)
  refine T.loop (fun k : Nat => [(0, .slice A n c), (3, .int .i64 (k : Int))]) (fun k w' => w' = w ∧ k ≤ n ∧ ∀ j, k ≤ j → l.getD j 0 = 0) (fun k => k) n (by repeat (first | exact Sub.nil _ | refine Sub.cons rfl ?_ | refine Sub.cons' rfl (int_congr (by omega)) ?_)) ⟨rfl, Nat.le_refl _, ?_⟩ ?_
  · intro j hj; simp [List.getD, List.getElem?_eq_none (show l.length ≤ j by omega)]
  · rintro k w' ⟨rfl, hk, hz⟩
    repeat' (first | refine TL.ev (ev_simple rfl) rfl ?_ | refine TL.grun rfl rfl rfl ?_ | refine TL.gskip rfl rfl rfl rfl ?_ | (refine TL.cmpG rfl rfl rfl rfl (fun hc => ?_) (fun hc => ?_) <;> try (exfalso; omega)) | refine TL.ev (ev_arN rfl rfl rfl (by omega)) rfl ?_ | refine TL.ev (ev_indexN rfl rfl (by omega) (by first | exact Or.inr rfl | exact Sl.some (by assumption))) rfl ?_ | refine TL.ev (ev_loadN rfl (by assumption) (by omega)) rfl ?_ | refine TL.ev (ev_sl_h rfl rfl (by omega)) rfl ?_ | refine T.seq ?_ | refine T.region ?_ | refine TL.nil ?_ | refine T.block ?_ | refine T.cond_t rfl ?_ | refine T.cond_f rfl ?_ | refine T.exit ?_ | refine T.ret ?_ | refine T.skip ?_ | refine G.next ?_ | refine G.blockN ?_ | refine G.blockE ?_ | refine G.thenE ?_)
    · refine G.again (k - 1) (by repeat (first | exact Sub.nil _ | refine Sub.cons rfl ?_ | refine Sub.cons' rfl (int_congr (by omega)) ?_)) ⟨rfl, by omega, fun j hj => ?_⟩ (by omega)
      rcases Nat.lt_or_ge j k with h | h
      · obtain rfl : j = k - 1 := by omega
        omega
      · exact hz j h
    · rw [N16.sz_eq l k (by omega) hz (.inr (by omega))]
      exact G.ret1 rfl rfl ⟨rfl, Qt.refl _⟩
    · rw [N16.sz_eq l k (by omega) hz (.inl (by omega))]
      exact G.ret1 rfl rfl ⟨rfl, Qt.refl _⟩

set_option maxHeartbeats 2000000 in
theorem split_ok (w : World) (B : Nat) (A : Option Addr) (n c : Nat) (l : List Nat) (hs : Sl u64v w.heap B A n c l) (hu : U64 l) (hn : n ≤ 1099511627776) :
    Cl Try.prog 79 #[.slice A n c] w (RetI w (N16.dig (val l)) (4 * n)) := by
  have hlen := hs.len
  replace hs := hs.size
  refine enter Try.func79 rfl rfl rfl ?_
  repeat' (first | refine TL.ev (ev_simple rfl) rfl ?_ | refine TL.ev (ev_len rfl) rfl ?_ | refine TL.ev (ev_arN rfl rfl rfl (by omega)) rfl ?_ | (refine TL.makeN rfl rfl rfl (by omega) (by omega) (fun w1 b1 eb hB hE hz => ?_)) | refine T.seq ?_ | refine T.region ?_ | refine TL.nil ?_ | refine T.block ?_ | refine G.next ?_)
  have hO := ow_head hB (c := 4 * n) (by simp) (by unfold maxLen; simp; omega) (Nat.le_of_eq eb.symm)
  refine T.loop (α := Nat × Option Addr × Nat × List Nat) (fun x => [(0, .slice A n c), (3, .slice x.2.1 (4 * x.1) x.2.2.1), (4, .int .i64 (x.1 : Int))])
    (fun x w' => x.1 ≤ n ∧ Ext w w' ∧ Ow n64v w'.heap w.heap.size 3 x.2.1 (4 * x.1) x.2.2.1 x.2.2.2 ∧ N16.U64 x.2.2.2 ∧ N16.val x.2.2.2 = val (l.take x.1))
    (fun x => n - x.1) (0, some ⟨b1, 0, none⟩, 4 * n, []) (by repeat (first | exact Sub.nil _ | refine Sub.cons rfl ?_ | refine Sub.cons' rfl (int_congr (by omega)) ?_)) ⟨Nat.zero_le _, hE, hO, N16.U64.nil, rfl⟩ ?_
  rintro ⟨i, A1, c1, D⟩ w2 ⟨hi, hE2, hO2, hDu, hv⟩
  dsimp only at hi hE2 hO2 hDu hv ⊢
  have hD := hO2.len
  have t1 := hs.ext hE2
  rcases Nat.lt_or_ge i n with hin | hin
  · have hx := hu.getD i
    repeat' (first | refine TL.ev (ev_simple rfl) rfl ?_ | refine TL.ev (ev_len rfl) rfl ?_ | (refine TL.cmpG rfl rfl rfl rfl (fun hc => ?_) (fun hc => ?_) <;> try (exfalso; omega)) | refine TL.ev (ev_indexN rfl rfl (by omega) (by first | exact Or.inr rfl | exact Sl.some (by assumption))) rfl ?_ | refine TL.ev (ev_loadU rfl (by assumption) (by omega)) rfl ?_ | refine T.seq ?_ | refine T.region ?_ | refine TL.nil ?_ | refine T.block ?_ | refine T.cond_t rfl ?_ | refine T.skip ?_ | refine G.next ?_)
    refine T.loop (α := Nat × Option Addr × Nat) (fun x => [(0, .slice A n c), (3, .slice x.2.1 (4 * i + x.1) x.2.2), (4, .int .i64 (i : Int)), (5, .int .u64 ((l.getD i 0 / 65536 ^ x.1 : Nat) : Int)), (6, .int .i64 (x.1 : Int))])
      (fun x w' => x.1 ≤ 4 ∧ Ext w w' ∧ Ow n64v w'.heap w.heap.size 3 x.2.1 (4 * i + x.1) x.2.2 (D ++ fourK (l.getD i 0) x.1))
      (fun x => 4 - x.1) (0, A1, c1) (by rw [Nat.pow_zero, Nat.div_one]; exact (by repeat (first | exact Sub.nil _ | refine Sub.cons rfl ?_ | refine Sub.cons' rfl (int_congr (by omega)) ?_))) ⟨by dsimp only; omega, hE2, by simpa [fourK] using hO2⟩ ?_
    rintro ⟨k, A3, c3⟩ w3 ⟨hk, hE3, hO3⟩
    dsimp only at hk hE3 hO3 ⊢
    rcases Nat.lt_or_ge k 4 with hk4 | hk4
    · have hx2 : l.getD i 0 / 65536 ^ k < 18446744073709551616 := Nat.lt_of_le_of_lt (Nat.div_le_self _ _) hx
      have hsz := hE3.size
      repeat' (first | refine TL.ev (ev_simple rfl) rfl ?_ | (refine TL.cmpG rfl rfl rfl rfl (fun hc => ?_) (fun hc => ?_) <;> try (exfalso; omega)) | refine TL.ev (ev_arN rfl rfl rfl (by omega)) rfl ?_ | refine TL.ev (ev_convI rfl (by omega)) rfl ?_ | refine TL.ev (ev_arU rfl rfl rfl (by first | exact True.intro | omega)) rfl ?_ | (refine TL.build1N rfl rfl (fun w4 b4 eb4 hB4 hE4 hz4 => ?_); have hO4 := hO3.ext hE4; have hS4 := hB4.slN (n := 1) (c := 1) rfl (Nat.le_refl _) hB4.lt) | (refine TL.append (f := n64v) (fun _ => rfl) rfl rfl rfl rfl hO4 hS4 (by omega) (by omega) (fun w5 A5 c5 hO5 hg5 hL5 => ?_)) | refine T.seq ?_ | refine T.region ?_ | refine TL.nil ?_ | refine T.block ?_ | refine T.cond_t rfl ?_ | refine T.skip ?_ | refine G.next ?_ | refine G.blockN ?_)
      refine G.again (k + 1, A5, c5) (by rw [Nat.pow_succ, ← Nat.div_div_eq_div_mul]; exact (by repeat (first | exact Sub.nil _ | refine Sub.cons rfl ?_ | refine Sub.cons' rfl (int_congr (by omega)) ?_))) ⟨by dsimp only; omega, Below.trans (hE3.trans hE4) hL5, ?_⟩ (by dsimp only; omega)
      dsimp only
      rw [fourK_succ, ← List.append_assoc]
      exact hO5
    · obtain rfl : k = 4 := by omega
      repeat' (first | refine TL.ev (ev_simple rfl) rfl ?_ | (refine TL.cmpG rfl rfl rfl rfl (fun hc => ?_) (fun hc => ?_) <;> try (exfalso; omega)) | refine TL.ev (ev_arN rfl rfl rfl (by omega)) rfl ?_ | refine T.seq ?_ | refine T.region ?_ | refine TL.nil ?_ | refine T.cond_f rfl ?_ | refine T.exit ?_ | refine G.next ?_ | refine G.blockN ?_ | refine G.blockE ?_ | refine G.thenE ?_)
      refine G.again (i + 1, A3, c3, D ++ fourK (l.getD i 0) 4) (by rw [Nat.mul_add]; exact (by repeat (first | exact Sub.nil _ | refine Sub.cons rfl ?_ | refine Sub.cons' rfl (int_congr (by omega)) ?_))) ⟨by dsimp only; omega, hE3, hO3, hDu.append (U_fourK _ _), ?_⟩ (by dsimp only; omega)
      dsimp only
      rw [N16.val_append, hD, W_pow4, val_fourK hx, hv, val_take_succ]
  · obtain rfl : i = n := by omega
    have e : l.take i = l := List.take_of_length_le (by omega)
    rw [e] at hv
    have hS := hO2.sl (Nat.le_refl _)
    have hz := N16.sz_le D
    repeat' (first | refine TL.ev (ev_simple rfl) rfl ?_ | refine TL.ev (ev_len rfl) rfl ?_ | (refine TL.cmpG rfl rfl rfl rfl (fun hc => ?_) (fun hc => ?_) <;> try (exfalso; omega)) | (refine TL.callP rfl rfl (rtrim_ok _ _ _ _ _ _ hS (by omega)) (fun q1 => ?_)) | refine T.seq ?_ | refine T.region ?_ | refine TL.nil ?_ | refine T.cond_f rfl ?_ | refine T.exit ?_ | refine T.ret ?_ | refine G.next ?_ | refine G.blockE ?_ | refine G.thenE ?_)
    have := hO2.take (k := N16.sz D) (by omega)
    rw [N16.take_sz hDu, hv] at this
    exact G.ret1 rfl rfl (RetI.mk this (hE2.drewN _) (by omega))

theorem sz16_take (l : List Nat) : N16.sz (l.take (N16.sz l)) = N16.sz l := by
  have h := N16.sz_le l
  refine N16.sz_eq _ _ (by rw [List.length_take]; omega) (fun j hj => N16.getD_ge (by rw [List.length_take]; omega)) ?_
  rcases N16.sz_top l with h | h
  · exact .inl h
  · rcases Nat.eq_zero_or_pos (N16.sz l) with h0 | h0
    · exact .inl h0
    · refine .inr ?_
      have e : (l.take (N16.sz l)).getD (N16.sz l - 1) 0 = l.getD (N16.sz l - 1) 0 := by simp [List.getD, List.getElem?_take, show N16.sz l - 1 < N16.sz l by omega]
      rwa [e]
set_option maxHeartbeats 2000000 in
theorem join_ok (w : World) (B : Nat) (A : Option Addr) (n c : Nat) (l : List Nat) (hs : Sl n64v w.heap B A n c l) (hu : N16.U64 l) (hn : n ≤ 4398046511104) :
    Cl Try.prog 84 #[.slice A n c] w (RetN w (dig (N16.val l)) (n / 4 + 1)) := by
  have hlen := hs.len
  have hcap := hs.cap
  replace hs := hs.size
  have hsz := N16.sz_le l
  have hsT := hs.take (k := N16.sz l) (m := c) (by omega) (by omega)
  have hT := sz16_take l
  have huT := hu.take (N16.sz l)
  have hvT := N16.val_sz l
  have hlT := hsT.len
  rw [← hvT]
  refine enter Try.func84 rfl rfl rfl ?_
  repeat' (first | refine TL.ev (ev_simple rfl) rfl ?_ | refine TL.ev (ev_len rfl) rfl ?_ | refine TL.ev (ev_arN rfl rfl rfl (by omega)) rfl ?_ | (refine TL.callP rfl rfl (rtrim_ok _ _ _ _ _ _ hs (by omega)) (fun q1 => ?_)) | (refine TL.makeU rfl rfl rfl (by omega) (by omega) (fun w1 b1 eb hB hE hz => ?_); simp only [World.heap_drewN] at eb hz; have hE1 := (ext_drewN w q1).trans hE) | refine T.seq ?_ | refine T.region ?_ | refine TL.nil ?_ | refine T.block ?_ | refine G.next ?_)
  have hO := ow_head (lo := w.heap.size) hB (c := N16.sz l / 4 + 1) (by simp) (by unfold maxLen; simp; omega) (Nat.le_of_eq eb.symm)
  have hk4 : N16.sz l / 4 + 1 ≤ n / 4 + 1 := by omega
  generalize l.take (N16.sz l) = E at *
  generalize N16.sz l = nT at *
  refine T.loop (α := Nat × Option Addr × Nat × List Nat) (fun x => [(0, .slice A nT c), (3, .slice x.2.1 x.1 x.2.2.1), (4, .int .i64 ((4 * x.1 : Nat) : Int))])
    (fun x w' => 4 * x.1 < nT + 4 ∧ Ext w w' ∧ Ow u64v w'.heap w.heap.size 51 x.2.1 x.1 x.2.2.1 x.2.2.2 ∧ U64 x.2.2.2 ∧ val x.2.2.2 = N16.val (E.take (4 * x.1)))
    (fun x => nT + 4 - 4 * x.1) (0, some ⟨b1, 0, none⟩, nT / 4 + 1, []) (by repeat (first | exact Sub.nil _ | refine Sub.cons rfl ?_ | refine Sub.cons' rfl (int_congr (by omega)) ?_)) ⟨by dsimp only; omega, hE1, hO, U64.nil, rfl⟩ ?_
  rintro ⟨q, A1, c1, D⟩ w2 ⟨hi, hE2, hO2, hDu, hv⟩
  dsimp only at hi hE2 hO2 hDu hv ⊢
  have hD := hO2.len
  have t1 := hsT.ext hE2
  have hsz2 := hE2.size
  rcases Nat.lt_or_ge (4 * q) nT with hin | hin
  · repeat' (first | refine TL.ev (ev_simple rfl) rfl ?_ | refine TL.ev (ev_len rfl) rfl ?_ | (refine TL.cmpG rfl rfl rfl rfl (fun hc => ?_) (fun hc => ?_) <;> try (exfalso; omega)) | refine T.seq ?_ | refine T.region ?_ | refine TL.nil ?_ | refine T.block ?_ | refine T.cond_t rfl ?_ | refine T.skip ?_ | refine G.next ?_)
    refine T.loop (α := Int) (fun x => [(0, .slice A nT c), (3, .slice A1 q c1), (4, .int .i64 ((4 * q : Nat) : Int)), (5, .int .u64 ((N16.val ((E.drop (4 * q + (x + 1).toNat)).take (4 - (x + 1).toNat)) : Nat) : Int)), (6, .int .i64 x)])
      (fun x w' => -1 ≤ x ∧ x ≤ 3 ∧ w' = w2)
      (fun x => (x + 1).toNat) 3 (by rw [show (3 + 1 : Int).toNat = 4 by rfl, Nat.sub_self, List.take_zero]; exact (by repeat (first | exact Sub.nil _ | refine Sub.cons rfl ?_ | refine Sub.cons' rfl (int_congr (by omega)) ?_))) ⟨by omega, by omega, rfl⟩ ?_
    rintro x w3 ⟨hx0, hx1, rfl⟩
    rcases (show x = -1 ∨ 0 ≤ x by omega) with rfl | hx
    · rw [show (-1 + 1 : Int).toNat = 0 by rfl, Nat.add_zero, Nat.sub_zero]
      have hlt := part16_lt huT (4 * q) 4
      rw [← W_four] at hlt
      repeat' (first | refine TL.ev (ev_simple rfl) rfl ?_ | (refine TL.cmpG rfl rfl rfl rfl (fun hc => ?_) (fun hc => ?_) <;> try (exfalso; omega)) | refine TL.ev (ev_arN rfl rfl rfl (by omega)) rfl ?_ | (refine TL.build1U rfl rfl (fun w4 b4 eb4 hB4 hE4 hz4 => ?_); have hO4 := hO2.ext hE4; have hS4 := hB4.slN (n := 1) (c := 1) rfl (Nat.le_refl _) hB4.lt) | (refine TL.append (f := u64v) (fun _ => rfl) rfl rfl rfl rfl hO4 hS4 (by omega) (by omega) (fun w5 A5 c5 hO5 hg5 hL5 => ?_)) | refine T.seq ?_ | refine T.region ?_ | refine TL.nil ?_ | refine T.cond_f rfl ?_ | refine T.exit ?_ | refine G.next ?_ | refine G.blockN ?_ | refine G.blockE ?_ | refine G.thenE ?_)
      refine G.again (q + 1, A5, c5, _) (by rw [Nat.mul_add]; exact (by repeat (first | exact Sub.nil _ | refine Sub.cons rfl ?_ | refine Sub.cons' rfl (int_congr (by omega)) ?_))) ⟨by dsimp only; omega, Below.trans (hE2.trans hE4) hL5, hO5, hDu.append (U64.one hlt), ?_⟩ (by dsimp only; omega)
      dsimp only
      rw [val_snoc, hD, hv, take16_four, Nat.add_zero]
    · obtain ⟨k, rfl⟩ := Int.eq_ofNat_of_zero_le hx
      have hd := huT.getD (4 * q + k)
      have hlt := part16_lt huT (4 * q + (k + 1)) (3 - k)
      have hle : 65536 ^ (3 - k) ≤ 65536 ^ 3 := Nat.pow_le_pow_right (by omega) (by omega)
      have hst := part16_succ E (4 * q + k) (3 - k)
      rw [show 3 - k + 1 = 4 - k by omega, show 4 * q + k + 1 = 4 * q + (k + 1) by omega] at hst
      rw [show ((k : Int) + 1).toNat = k + 1 by omega, show 4 - (k + 1) = 3 - k by omega]
      rcases Nat.lt_or_ge (4 * q + k) nT with hr | hr
      · repeat' (first | refine TL.ev (ev_simple rfl) rfl ?_ | refine TL.ev (ev_len rfl) rfl ?_ | (refine TL.cmpG rfl rfl rfl rfl (fun hc => ?_) (fun hc => ?_) <;> try (exfalso; omega)) | refine TL.ev (ev_arN rfl rfl rfl (by omega)) rfl ?_ | refine TL.ev (ev_arI rfl rfl rfl (by omega)) rfl ?_ | refine TL.ev (ev_indexN rfl rfl (by omega) (by first | exact Or.inr rfl | exact Sl.some (by assumption))) rfl ?_ | refine TL.ev (ev_loadN rfl (by assumption) (by omega)) rfl ?_ | refine TL.ev (ev_convU rfl (by omega)) rfl ?_ | refine TL.ev (ev_arU rfl rfl rfl (by first | exact True.intro | omega)) rfl ?_ | refine T.seq ?_ | refine T.region ?_ | refine TL.nil ?_ | refine T.block ?_ | refine T.cond_t rfl ?_ | refine T.skip ?_ | refine G.next ?_ | refine G.blockN ?_)
        exact G.again ((k : Int) - 1) (by rw [show ((k : Int) - 1 + 1).toNat = k by omega]; exact (by repeat (first | exact Sub.nil _ | refine Sub.cons rfl ?_ | refine Sub.cons' rfl (int_congr (by omega)) ?_))) ⟨by omega, by omega, rfl⟩ (by omega)
      · have hd0 : E.getD (4 * q + k) 0 = 0 := N16.getD_ge (by omega)
        repeat' (first | refine TL.ev (ev_simple rfl) rfl ?_ | refine TL.ev (ev_len rfl) rfl ?_ | (refine TL.cmpG rfl rfl rfl rfl (fun hc => ?_) (fun hc => ?_) <;> try (exfalso; omega)) | refine TL.ev (ev_arN rfl rfl rfl (by omega)) rfl ?_ | refine TL.ev (ev_arU rfl rfl rfl (by first | exact True.intro | omega)) rfl ?_ | refine T.seq ?_ | refine T.region ?_ | refine TL.nil ?_ | refine T.block ?_ | refine T.cond_t rfl ?_ | refine T.cond_f rfl ?_ | refine T.skip ?_ | refine G.next ?_ | refine G.blockN ?_)
        exact G.again ((k : Int) - 1) (by rw [show ((k : Int) - 1 + 1).toNat = k by omega]; exact (by repeat (first | exact Sub.nil _ | refine Sub.cons rfl ?_ | refine Sub.cons' rfl (int_congr (by omega)) ?_))) ⟨by omega, by omega, rfl⟩ (by omega)
  · have e : E.take (4 * q) = E := List.take_of_length_le (by omega)
    rw [e] at hv
    rw [join_end (by omega) hDu hD hv (by omega) (by omega)] at hO2
    repeat' (first | refine TL.ev (ev_simple rfl) rfl ?_ | refine TL.ev (ev_len rfl) rfl ?_ | (refine TL.cmpG rfl rfl rfl rfl (fun hc => ?_) (fun hc => ?_) <;> try (exfalso; omega)) | refine T.seq ?_ | refine T.region ?_ | refine TL.nil ?_ | refine T.cond_f rfl ?_ | refine T.exit ?_ | refine T.ret ?_ | refine G.next ?_ | refine G.blockE ?_ | refine G.thenE ?_)
    exact G.ret1 rfl rfl (RetN.mk hO2 hE2 (by omega))
end Go.Proofs.Ytlhmehikajidhaa

namespace Go.Proofs.Ytlhmehikajidhaa
open Go Go.Eng Go.Proofs Go.NatM Go.RowKit

theorem rleast_ok (w : World) (B : Nat) (A : Option Addr) (n c : Nat) (l : List Nat) (hs : Sl u64v w.heap B A n c l) (hu : U64 l) (hn : n ≤ 1099511627776) :
    Cl Try.prog 68 #[.slice A n c] w (RetN w (dig (val l)) (n + 1)) := by
  refine enter Try.func68 rfl rfl rfl ?_
  repeat' (first | refine TL.ev (ev_simple rfl) rfl ?_ | (refine TL.call rfl rfl ?_; first | (refine (split_ok _ _ _ _ _ _ hs hu hn).mono ?_; rintro _ w1 ⟨A1, n1, c1, rfl, hO1, hE1, hK1⟩; refine Back.mk ?_; have hS1 := hO1.sl (Nat.le_refl _)) | (refine (join_ok _ _ _ _ _ _ hS1 (N16.U64_dig _) (by omega)).mono ?_; rintro _ w2 ⟨A2, n2, c2, rfl, hO2, hE2, hK2⟩; refine Back.mk ?_; rw [N16.val_dig] at hO2)) | refine T.seq ?_ | refine T.region ?_ | refine TL.nil ?_ | refine T.ret ?_ | refine G.next ?_)
  exact G.ret1 rfl rfl (RetN.mk (hO2.mono hE1.size) (hE1.trans hE2) (by omega))
end Go.Proofs.Ytlhmehikajidhaa
