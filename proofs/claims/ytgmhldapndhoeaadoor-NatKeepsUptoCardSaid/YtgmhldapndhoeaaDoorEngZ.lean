/- The engine: regions whose order is drawn, by a tree of orders, under a condition on the world that all effects but the last keep; results that lie in memory; closures. The engine: results that lie in memory, closures, append to nothing. The engine, so that each step gives a new world and what it keeps: rules for walks with variables in memory. The engine: blocks of structs known whole, filled from the front; guarded operations of drawn regions. The engine: frames. What a walk knows of the world lies in one fact: the blocks that it knows whole, and facts on data, which stand whatever is stored into those blocks. The engine: frames for statements about memory: what a walk may write lies in a set S, or is its own; facts on data name their blocks. -/
import Derived.Test.YtgmhldapndhoeaaDoorEngV
import Derived.Great.BuildSlice
set_option linter.unusedVariables false
set_option linter.unusedSimpArgs false
namespace Go.Eng
open Go Go.RowKit

/-- a tree of orders: s: taken first; e: an effect; alt: one of several -/
inductive Rt where
  | nil
  | s (i : Nat) (r : Rt)
  | e (i : Nat) (r : Rt)
  | alt (a b : Rt)
def Rt.heads : Rt → List Nat
  | .e i _ => [i]
  | .alt a b => a.heads ++ b.heads
  | _ => []
def afters (ops : Array Oper) (j : Nat) : List Nat := match ops[j]? with
  | some o => (o.after.toList.filter (fun e => Region.binds .any e)).map (·.on)
  | none => []
def ins : List Nat → List Nat → List Nat
  | [], acc => acc
  | j :: l, acc => ins l (if acc.contains j then acc else j :: acc)
def clos (ops : Array Oper) : Nat → List Nat → List Nat
  | 0, l => l
  | n + 1, l => clos ops n (ins (l.flatMap (afters ops)) l)
theorem mem_ins : ∀ (l acc : List Nat) (j : Nat), j ∈ ins l acc → j ∈ l ∨ j ∈ acc
  | [], acc, j, h => .inr h
  | x :: l, acc, j, h => by
    rcases mem_ins l _ j h with h | h
    · exact .inl (List.mem_cons_of_mem _ h)
    · split at h
      · exact .inr h
      · rcases List.mem_cons.1 h with rfl | h
        · exact .inl (List.mem_cons_self ..)
        · exact .inr h
theorem afters_listed {ops : Array Oper} {L : Array Bool} (inv : CInv ops L) {j i : Nat} (hj : L.getD j false = true) (hi : i ∈ afters ops j) : L.getD i false = true := by
  unfold afters at hi
  cases ho : ops[j]? with
  | none => rw [ho] at hi; cases hi
  | some o =>
    rw [ho] at hi
    obtain ⟨e, he, rfl⟩ := List.mem_map.1 hi
    have := List.mem_filter.1 he
    exact inv.closed j o ho hj e (by simpa using this.1) this.2
theorem clos_listed {ops : Array Oper} {L : Array Bool} (inv : CInv ops L) : ∀ (n : Nat) (l : List Nat), (∀ j ∈ l, L.getD j false = true) → ∀ j ∈ clos ops n l, L.getD j false = true
  | 0, l, h, j, hj => h j hj
  | n + 1, l, h, j, hj => clos_listed inv n _ (fun k hk => by
    rcases mem_ins _ _ _ hk with hk | hk
    · obtain ⟨q, hq, hk⟩ := List.mem_flatMap.1 hk
      exact afters_listed inv (h q hq) hk
    · exact h k hk) j hj
/-- i comes before f in every order -/
def before (ops : Array Oper) (f i : Nat) : Bool := Nat.ble ops.size f || (clos ops ops.size (afters ops f)).contains i
theorem before_spec {ops : Array Oper} {L : Array Bool} (inv : CInv ops L) {f i : Nat} (h : before ops f i = true) (hi : L.getD i false = false) : f ∉ Region.ready .any ops L := by
  intro hr
  obtain ⟨_, o, ho, hall⟩ := mem_ready.1 hr
  simp only [before, Bool.or_eq_true, Nat.ble_eq] at h
  rcases h with h | h
  · have := (Array.getElem?_eq_some_iff.1 ho).1; omega
  · have := clos_listed inv ops.size (afters ops f) (fun j hj => by
      unfold afters at hj
      rw [ho] at hj
      obtain ⟨e, he, rfl⟩ := List.mem_map.1 hj
      have h2 := List.mem_filter.1 he
      exact hall e (by simpa using h2.1) h2.2) i (by simpa using h)
    rw [this] at hi; cases hi
def Rt.depth : Rt → Nat
  | .nil => 0
  | .s _ r => r.depth + 1
  | .e _ r => r.depth + 1
  | .alt a b => max a.depth b.depth
def Rt.isNil : Rt → Bool
  | .nil => true
  | _ => false
def treeC (ops : Array Oper) (f : Nat) : Rt → Bool → Array Bool → Bool
  | .nil, _, L => (Region.ready .any ops L).isEmpty
  | .s i r, _, L => (Region.ready .any ops L).contains i && Region.free .any ops L i && !Nat.beq i f && before ops f i && treeC ops f r true (L.setIfInBounds i true)
  | .e i r, top, L => (!top || decide (Region.ready .any ops L = [i])) && (!Nat.beq i f || r.isNil) && treeC ops f r true (L.setIfInBounds i true)
  | .alt a b, top, L => (!top || (decide (Region.ready .any ops L = a.heads ++ b.heads) && !(a.heads ++ b.heads).isEmpty)) && treeC ops f a false L && treeC ops f b false L
def treeB (ops : Array Oper) (f : Nat) (t : Rt) : Bool := Region.noSelect ops && Nat.ble t.depth ops.size && treeC ops f t true (Array.replicate ops.size false)
/-- whatever order is drawn; behind all operations but f, S holds -/
def wpAnyF (P : Program) (ops : Array Oper) (Q : Exit → Act → World → Prop) (S : World → Prop) (f : Nat) : Nat → Array Bool → Act → World → Prop
  | 0, L, a, w => Region.ready .any ops L = [] ∧ Q .normal a w
  | n + 1, L, a, w => (Region.ready .any ops L = [] → Q .normal a w) ∧ ∀ i ∈ Region.ready .any ops L, wpOp P ops Q i (fun a' w' => (i ≠ f → S w') ∧ wpAnyF P ops Q S f n (L.setIfInBounds i true) a' w') a w
def wpTree (P : Program) (ops : Array Oper) (Q : Exit → Act → World → Prop) (S : World → Prop) (f : Nat) : Rt → Act → World → Prop
  | .nil, a, w => Q .normal a w
  | .s i r, a, w => ∃ o v, ops[i]? = some o ∧ YieldsIf P ops S o v a ∧ wpTree P ops Q S f r (a.put o.dst v) w
  | .e i r, a, w => wpOp P ops Q i (fun a' w' => (i ≠ f → S w') ∧ wpTree P ops Q S f r a' w') a w
  | .alt x y, a, w => wpTree P ops Q S f x a w ∧ wpTree P ops Q S f y a w
section
variable {P : Program} {ops : Array Oper} {Q : Exit → Act → World → Prop} {S : World → Prop} {f : Nat}
theorem wpAny_of_F : ∀ (n : Nat) (L : Array Bool) (a : Act) (w : World), wpAnyF P ops Q S f n L a w → wpAny P .any ops Q n L a w
  | 0, _, _, _, h => h
  | n + 1, _, _, _, h => ⟨h.1, fun i hi => wpOp_mono (fun a' w' h' => wpAny_of_F n _ a' w' h'.2) (h.2 i hi)⟩
theorem wpAnyF_more : ∀ (n : Nat) (L : Array Bool) (a : Act) (w : World), wpAnyF P ops Q S f n L a w → wpAnyF P ops Q S f (n + 1) L a w
  | 0, L, a, w, h => ⟨fun _ => h.2, fun i hi => by rw [h.1] at hi; cases hi⟩
  | n + 1, L, a, w, h => ⟨h.1, fun i hi => wpOp_mono (fun a' w' h' => ⟨h'.1, wpAnyF_more n _ a' w' h'.2⟩) (h.2 i hi)⟩
theorem wpAnyF_le {n m : Nat} (hm : n ≤ m) {L : Array Bool} {a : Act} {w : World} (h : wpAnyF P ops Q S f n L a w) : wpAnyF P ops Q S f m L a w := by
  induction hm with
  | refl => exact h
  | step _ ih => exact wpAnyF_more _ _ _ _ ih
theorem wpAnyF_first {i : Nat} {oi : Oper} {v : Value} (hi : ops[i]? = some oi) (hif : i ≠ f) (hbf : before ops f i = true) (hsel : ∀ (j : Nat) (o : Oper) cs b, ops[j]? = some o → o.op ≠ .select cs b)
    (hQ : ∀ c a w, Q (.panic c) (a.put oi.dst v) w → Q (.panic c) a w) :
    ∀ (n : Nat) (L : Array Bool) (a : Act) (w : World), CInv ops L →
      (∀ j oj, ops[j]? = some oj → j ≠ i → L.getD j true = false → (∀ e ∈ oj.after, Region.binds .any e = true → e.on ≠ i) → oi.apart ops oj = true) →
      i ∈ Region.ready .any ops L → YieldsIf P ops S oi v a → S w →
      wpAnyF P ops Q S f n (L.setIfInBounds i true) (a.put oi.dst v) w → wpAnyF P ops Q S f (n + 1) L a w := by
  intro n
  induction n with
  | zero =>
    intro L a w inv _ hr hy hS H
    refine ⟨fun h => (by rw [h] at hr; cases hr), fun j hj => ?_⟩
    by_cases hji : j = i
    · subst hji; exact hy.wpOp hi hS ⟨fun _ => hS, H⟩
    · have := ready_mono hj hji
      rw [H.1] at this
      cases this
  | succ n ih =>
    intro L a w inv hfree hr hy hS H
    refine ⟨fun h => (by rw [h] at hr; cases hr), fun j hj => ?_⟩
    by_cases hji : j = i
    · subst hji; exact hy.wpOp hi hS ⟨fun _ => hS, H⟩
    · have h1 := H.2 j (ready_mono hj hji)
      obtain ⟨hjun, oj, hoj, hall⟩ := mem_ready.1 hj
      have hun := (mem_ready.1 hr).1
      have hun' : L.getD i false = false := getD_both hun
      have hjf : j ≠ f := fun e => by subst e; exact before_spec inv hbf hun' hj
      have hnot : ∀ e ∈ oj.after, Region.binds .any e = true → e.on ≠ i := fun e he hb heq => by
        have h1 := hall e he hb
        rw [heq, hun'] at h1
        cases h1
      have h2 := wpOp_putIf hoj (hfree j oj hoj hji hjun hnot) (fun cs b => hsel i oi cs b hi) (fun cs b => hsel j oj cs b hoj) hQ hy h1
      have hfree' : ∀ k ok, ops[k]? = some ok → k ≠ i → (L.setIfInBounds j true).getD k true = false →
          (∀ e ∈ ok.after, Region.binds .any e = true → e.on ≠ i) → oi.apart ops ok = true := fun k ok hk hki hun hno => by
        refine hfree k ok hk hki ?_ hno
        by_cases hjk : j = k
        · subst hjk; exact hjun
        · rw [getD_set_ne true hjk] at hun; exact hun
      refine wpOp_mono (fun a' w' h3 => ⟨fun _ => h3.2.1 hjf, ih (L.setIfInBounds j true) a' w' (inv.set hj) hfree' (ready_mono hr (Ne.symm hji)) h3.1 (h3.2.1 hjf) ?_⟩) h2
      rw [Array.setIfInBounds_comm _ _ hji]
      exact h3.2.2
theorem wpTree_both (hsel : Region.noSelect ops = true) (hQ : ∀ c a w, ¬ Q (.panic c) a w) (t : Rt) :
    (∀ (n : Nat) (L : Array Bool) (a : Act) (w : World), CInv ops L → t.depth ≤ n → treeC ops f t true L = true → (t = .nil ∨ S w) → wpTree P ops Q S f t a w → wpAnyF P ops Q S f n L a w) ∧
    (∀ (n : Nat) (L : Array Bool) (a : Act) (w : World), CInv ops L → t.depth ≤ n + 1 → treeC ops f t false L = true → wpTree P ops Q S f t a w → (∀ i ∈ t.heads, i ∈ Region.ready .any ops L) →
      ∀ i ∈ t.heads, wpOp P ops Q i (fun a' w' => (i ≠ f → S w') ∧ wpAnyF P ops Q S f n (L.setIfInBounds i true) a' w') a w) := by
  induction t with
  | nil =>
    refine ⟨fun n L a w inv hd hC hS h => ?_, fun n L a w inv hd hC h hr i hi => by cases hi⟩
    refine wpAnyF_le (Nat.zero_le n) ⟨?_, h⟩
    simpa [treeC] using hC
  | s i r ih =>
    refine ⟨fun n L a w inv hd hC hS h => ?_, fun n L a w inv hd hC h hr i hi => by cases hi⟩
    simp only [treeC, Bool.and_eq_true, Bool.not_eq_true'] at hC
    obtain ⟨⟨⟨⟨hrd, hf⟩, hif0⟩, hbf⟩, hC'⟩ := hC
    have hif : i ≠ f := fun e => by subst e; simp at hif0
    obtain ⟨o, v, ho, hy, h'⟩ := h
    have hS' : S w := hS.resolve_left (by simp)
    obtain ⟨m, rfl⟩ : ∃ m, n = m + 1 := ⟨n - 1, by simp only [Rt.depth] at hd; omega⟩
    have hrd' : i ∈ Region.ready .any ops L := by simpa using hrd
    exact wpAnyF_first ho hif hbf (Region.noSelect_spec hsel) (fun c a w h => absurd h (hQ _ _ _)) m L a w inv (Region.free_spec ho hf) hrd' hy hS'
      (ih.1 m _ _ w (inv.set hrd') (by simp only [Rt.depth] at hd; omega) hC' (.inr hS') h')
  | e i r ih =>
    have hd2 : ∀ (top : Bool) (n : Nat) (L : Array Bool) (a : Act) (w : World), CInv ops L → r.depth ≤ n → treeC ops f (.e i r) top L = true → wpTree P ops Q S f (.e i r) a w → i ∈ Region.ready .any ops L →
        wpOp P ops Q i (fun a' w' => (i ≠ f → S w') ∧ wpAnyF P ops Q S f n (L.setIfInBounds i true) a' w') a w := by
      intro top n L a w inv hd hC h hr
      simp only [treeC, Bool.and_eq_true] at hC
      obtain ⟨⟨_, hnil⟩, hC'⟩ := hC
      refine wpOp_mono (fun a' w' h' => ⟨h'.1, ih.1 n _ a' w' (inv.set hr) hd hC' ?_ h'.2⟩) h
      by_cases hif : i = f
      · left
        simp only [hif, Bool.or_eq_true, Bool.not_eq_true'] at hnil
        rcases hnil with hnil | hnil
        · simp at hnil
        · cases r <;> simp_all [Rt.isNil]
      · exact .inr (h'.1 hif)
    refine ⟨fun n L a w inv hd hC hS h => ?_, fun n L a w inv hd hC h hr j hj => ?_⟩
    · have hC2 := hC
      simp only [treeC, Bool.and_eq_true, Bool.not_true, Bool.false_or, decide_eq_true_eq] at hC2
      have hrd := hC2.1.1
      obtain ⟨m, rfl⟩ : ∃ m, n = m + 1 := ⟨n - 1, by simp only [Rt.depth] at hd; omega⟩
      refine ⟨fun h0 => (by rw [hrd] at h0; cases h0), fun j hj => ?_⟩
      rw [hrd] at hj
      obtain rfl : j = i := by simpa using hj
      exact hd2 true m L a w inv (by simp only [Rt.depth] at hd; omega) hC h (by rw [hrd]; simp)
    · obtain rfl : j = i := by simpa [Rt.heads] using hj
      exact hd2 false n L a w inv (by simp only [Rt.depth] at hd; omega) hC h (hr j (by simp [Rt.heads]))
  | alt x y ihx ihy =>
    have hd2 : ∀ (top : Bool) (n : Nat) (L : Array Bool) (a : Act) (w : World), CInv ops L → (Rt.alt x y).depth ≤ n + 1 → treeC ops f (.alt x y) top L = true → wpTree P ops Q S f (.alt x y) a w → (∀ i ∈ (Rt.alt x y).heads, i ∈ Region.ready .any ops L) →
        ∀ i ∈ (Rt.alt x y).heads, wpOp P ops Q i (fun a' w' => (i ≠ f → S w') ∧ wpAnyF P ops Q S f n (L.setIfInBounds i true) a' w') a w := by
      intro top n L a w inv hd hC h hr i hi
      simp only [treeC, Bool.and_eq_true] at hC
      simp only [Rt.depth] at hd
      simp only [Rt.heads] at hr hi
      rcases List.mem_append.1 hi with hi | hi
      · exact ihx.2 n L a w inv (by omega) hC.1.2 h.1 (fun k hk => hr k (List.mem_append_left _ hk)) i hi
      · exact ihy.2 n L a w inv (by omega) hC.2 h.2 (fun k hk => hr k (List.mem_append_right _ hk)) i hi
    refine ⟨fun n L a w inv hd hC hS h => ?_, fun n L a w inv hd hC h hr => hd2 false n L a w inv hd hC h hr⟩
    have hC2 := hC
    simp only [treeC, Bool.and_eq_true, Bool.not_true, Bool.false_or, decide_eq_true_eq, Bool.not_eq_true'] at hC2
    obtain ⟨⟨⟨hrd, hne⟩, _⟩, _⟩ := hC2
    have hdp : 0 < (Rt.alt x y).depth := by
      rcases Nat.eq_zero_or_pos (Rt.alt x y).depth with h0 | h0
      · exfalso
        simp only [Rt.depth] at h0
        have hx : ∀ t : Rt, t.depth = 0 → t.heads = [] := by
          intro t
          induction t with
          | nil => intro _; rfl
          | s i r _ => intro h; simp [Rt.depth] at h
          | e i r _ => intro h; simp [Rt.depth] at h
          | alt a b iha ihb => intro h; simp only [Rt.depth] at h; simp [Rt.heads, iha (by omega), ihb (by omega)]
        rw [hx x (by omega), hx y (by omega)] at hne
        simp at hne
      · exact h0
    obtain ⟨m, rfl⟩ : ∃ m, n = m + 1 := ⟨n - 1, by omega⟩
    refine ⟨fun h0 => ?_, fun j hj => ?_⟩
    · rw [hrd] at h0; rw [h0] at hne; simp at hne
    · exact hd2 true m L a w inv hd hC h (fun i hi => by rw [hrd]; exact hi) j (by rw [hrd] at hj; exact hj)
theorem wp_region_tree {id : Nat} {a : Act} {w : World} {l : List Oper} (f : Nat) (t : Rt) (hm : P.follows .mixedOrders = true) (hB : treeB l.toArray f t = true) (hS : S (w.drewN 1))
    (h : wpTree P l.toArray (Only Q) S f t a (w.drewN 1)) : (Code.region id l.toArray true).wp P Q a w := by
  simp only [treeB, Bool.and_eq_true, Nat.ble_eq] at hB
  obtain ⟨⟨hsel, hd⟩, hC⟩ := hB
  refine wp_mono (Q := Only Q) (wp_region_any hm (wpAny_of_F (S := S) (f := f) _ _ _ _ ?_)) ?_
  · exact (wpTree_both (P := P) (Q := Only Q) (S := S) (f := f) hsel (fun _ _ _ h => h.elim) t).1 _ _ _ _ ⟨by simp, fun j oj _ hl => (by rw [getD_replicate_false] at hl; cases hl)⟩ hd hC (.inr hS) h
  · intro e a w he
    cases e <;> first | exact he | exact he.elim
end

/-- a region whose order is drawn, by the tree t, under S; the operation f comes last -/
def TF (P : Program) (N : Nat) (l : List Oper) (Q : Exit → Act → World → Prop) (S : World → Prop) (f : Nat) (t : Rt) (σ : Store) (w : World) : Prop :=
  ∀ a, Rep N σ a → wpTree P l.toArray (Only Q) S f t a w
def TreeK (P : Program) (l : List Oper) (Q : Exit → Act → World → Prop) (S : World → Prop) (f i : Nat) (t : Rt) (a : Act) (w : World) : Prop := (i ≠ f → S w) ∧ wpTree P l.toArray (Only Q) S f t a w
section
variable {P : Program} {N : Nat} {Q : Exit → Act → World → Prop} {S : World → Prop} {σ : Store} {w : World} {l : List Oper} {f : Nat}
theorem T.regionF (S : World → Prop) {id : Nat} (f : Nat) (t : Rt) (hm : P.follows .mixedOrders = true) (hB : treeB l.toArray f t = true) (hS : S (w.drewN 1)) (h : TF P N l Q S f t σ (w.drewN 1)) : T P N (.region id l.toArray true) Q σ w := by
  unfold T
  exact fun a ha => wp_region_tree (S := S) f t hm hB hS (h a ha)
/-- .. where all that stands stays, until the last operation -/
theorem T.regionE (id : Nat) (f : Nat) (t : Rt) (hm : P.follows .mixedOrders = true) (hB : treeB l.toArray f t = true) (h : TF P N l Q (fun w' => Ext w w') f t σ (w.drewN 1)) : T P N (.region id l.toArray true) Q σ w :=
  T.regionF _ f t hm hB (ext_drewN w 1) h
theorem TF.nil (h : G N .normal Q σ w) : TF P N l Q S f .nil σ w := by
  unfold G at h
  exact fun a ha => h a ha
theorem TF.s {i : Nat} {t : Rt} {d : Nat} {op : Op} {ty : TypeId} {pos : String} {af : Array Edge} {v : Value} (hi : pick1 l i = some ⟨some d, op, ty, pos, af, none⟩)
    (h : ∀ w', S w' → Ev P σ w'.heap ⟨some d, op, ty, pos, af, none⟩ v) (hd : Nat.blt d N = true) (k : TF P N l Q S f t ((d, v) :: σ) w) : TF P N l Q S f (.s i t) σ w := fun a ha =>
  ⟨_, v, pick_at hi, .inl ⟨by simp [Region.wanted], fun w' hw' => by have := h w' hw'; unfold Ev at this; exact this _ w' ha.agree rfl⟩, k _ (ha.put hd v)⟩
theorem TF.e {i : Nat} {t : Rt} {o : Oper} (hi : pick1 l i = some o) (h : TL P N .seq l.toArray (Only (Exit.then (TreeK P l Q S f i t) Q)) [o] σ w) : TF P N l Q S f (.e i t) σ w := fun a ha => by
  unfold TL at h
  exact wpOp_of_wpList (pick_at hi) (h a ha)
theorem TF.alt {x y : Rt} (hx : TF P N l Q S f x σ w) (hy : TF P N l Q S f y σ w) : TF P N l Q S f (.alt x y) σ w := fun a ha => ⟨hx a ha, hy a ha⟩
theorem G.tree {i : Nat} {t : Rt} (hif : Nat.beq i f = false) (hS : S w) (h : TF P N l Q S f t σ w) : G N .normal (Exit.then (TreeK P l Q S f i t) Q) σ w := by
  unfold G
  exact fun a ha => ⟨fun _ => hS, h a ha⟩
theorem G.treeEnd {i : Nat} {t : Rt} (hif : Nat.beq i f = true) (h : TF P N l Q S f t σ w) : G N .normal (Exit.then (TreeK P l Q S f i t) Q) σ w := by
  unfold G
  exact fun a ha => ⟨fun hne => absurd (Nat.eq_of_beq_eq_true hif) hne, h a ha⟩
end
attribute [irreducible] TF TreeK
end Go.Eng
namespace Go.Eng
open Go Go.RowKit

section
variable {P : Program} {N : Nat} {Q : Exit → Act → World → Prop} {σ : Store} {w : World} {fn : Func} {R : Ending → World → Prop}
/-- the value of a variable that lies in memory -/
def Held (P : Program) (ty : TypeId) (w : World) (b : Nat) (v : Value) : Prop := (loadVar ty ⟨b, 0, none⟩).run P w = .ok v w
theorem held_agg {ty e : TypeId} [hA : UAgg P ty] {z : Value} {sz b1 : Nat} [hS : USize P ty z sz b1] {b : Nat} {cs : List Value} (hV : Vr w.heap b e cs) (hl : Nat.beq cs.length sz = true) : Held P ty w b (.agg cs.toArray) := by
  obtain ⟨fs, hfs⟩ := hA.out
  obtain ⟨ii, hii, _, hsz, _⟩ := hS.info
  have hlen := Nat.eq_of_beq_eq_true hl
  refine run_loadVar_mid (P := P) w b 0 ty cs _ (fun j u hu => ?_) hfs rfl (by rw [hii]; simp [hsz, hlen])
  rw [Nat.zero_add, cell_of_hcell, hV.cell]
  exact hu
theorem held_one {ty e : TypeId} [hO : UOne P ty] {b : Nat} {v : Value} (hV : Vr w.heap b e [v]) : Held P ty w b v := by
  have hc : w.cell? ⟨b, 0, none⟩ = some v := by rw [cell_of_hcell, hV.cell]; rfl
  unfold Held
  simp [loadVar, run_isAgg_one hO, hc]
theorem results_c1 {r : Tmp} {ty : TypeId} (h : fn.results = #[.cell r ty]) {tmps : Array Value} {b : Nat} {v : Value} (hr : tmps.getD r undef = .pointer (some ⟨b, 0, none⟩)) (hH : Held P ty w b v) : (results fn tmps).run P w = .ok v w := by
  unfold Held at hH
  simp [results, h]
  simp only [Array.getD_eq_getD_getElem?] at hr
  simp [hr, asAddr, hH]
theorem results_c2 {r s : Tmp} {ty : TypeId} (h : fn.results = #[.cell r ty, .tmp s]) {tmps : Array Value} {b : Nat} {v : Value} (hr : tmps.getD r undef = .pointer (some ⟨b, 0, none⟩)) (hH : Held P ty w b v) : (results fn tmps).run P w = .ok (.tuple #[v, tmps.getD s undef]) w := by
  unfold Held at hH
  simp [results, h]
  simp only [Array.getD_eq_getD_getElem?] at hr
  simp [hr, asAddr, hH]
theorem results_c3 {r s q : Tmp} {ty ty' : TypeId} (h : fn.results = #[.cell r ty, .cell s ty', .tmp q]) {tmps : Array Value} {b b' : Nat} {v v' : Value} (hr : tmps.getD r undef = .pointer (some ⟨b, 0, none⟩)) (hs : tmps.getD s undef = .pointer (some ⟨b', 0, none⟩)) (hH : Held P ty w b v) (hH' : Held P ty' w b' v') :
    (results fn tmps).run P w = .ok (.tuple #[v, v', tmps.getD q undef]) w := by
  unfold Held at hH hH'
  simp [results, h]
  simp only [Array.getD_eq_getD_getElem?] at hr hs
  simp [hr, hs, asAddr, hH, hH']
theorem G.retC1 {r : Nat} {ty : TypeId} {b : Nat} {v : Value} (hr : fn.results = #[.cell r ty]) (hp : look1 σ r = some (.pointer (some ⟨b, 0, none⟩))) (hH : Held P ty w b v) (h : R (.returned v) w) : G N .ret (bodyPost P fn R) σ w := by
  unfold G
  exact fun a ha => bodyPost_ret (results_c1 hr (ha.get r _ hp) hH) ha.nodef h
theorem G.retC2 {r s : Nat} {ty : TypeId} {b : Nat} {v u : Value} (hr : fn.results = #[.cell r ty, .tmp s]) (hp : look1 σ r = some (.pointer (some ⟨b, 0, none⟩))) (hu : look1 σ s = some u) (hH : Held P ty w b v) (h : R (.returned (.tuple #[v, u])) w) : G N .ret (bodyPost P fn R) σ w := by
  unfold G
  exact fun a ha => bodyPost_ret (results_c2 hr (ha.get r _ hp) hH) ha.nodef (by rw [ha.get s u hu]; exact h)
theorem G.retC3 {r s q : Nat} {ty ty' : TypeId} {b b' : Nat} {v v' u : Value} (hr : fn.results = #[.cell r ty, .cell s ty', .tmp q]) (hp : look1 σ r = some (.pointer (some ⟨b, 0, none⟩))) (hp' : look1 σ s = some (.pointer (some ⟨b', 0, none⟩))) (hu : look1 σ q = some u)
    (hH : Held P ty w b v) (hH' : Held P ty' w b' v') (h : R (.returned (.tuple #[v, v', u])) w) : G N .ret (bodyPost P fn R) σ w := by
  unfold G
  exact fun a ha => bodyPost_ret (results_c3 hr (ha.get r _ hp) (ha.get s _ hp') hH hH') ha.nodef (by rw [ha.get q u hu]; exact h)
end
section
variable {P : Program} {σ : Store} {H : Array Obj} {d : Option Tmp} {t : TypeId} {pos : String} {af : Array Edge} {gd : Option (Nat × Bool)}
theorem ev_makeFunc {g : FuncId} {xs : List Operand} {vs : List Value} (hx : looks σ xs = some vs) : Ev P σ H ⟨d, .makeFunc (.func g) #[] xs.toArray, t, pos, af, gd⟩ (.func (.func g) #[] vs.toArray) := by
  unfold Ev
  intro ρ w hρ _
  have e := hρ.list xs vs hx
  simp [execOp, Instr.makeFunc, e]
end
section
variable {P : Program} {N : Nat} {Q : Exit → Act → World → Prop} {σ : Store} {w : World} {ops : Array Oper} {d : Nat} {t : TypeId} {pos : String} {af : Array Edge} {rest : List Oper}
theorem exec_callV {ρ : Operand → Value} {f : FuncId} {x : Operand} {xs : List Operand} {tys : Array TypeId} {vs cap : List Value} {dd : Option Tmp} {gd : Option (Nat × Bool)} (hρ : Agree σ ρ) (hf : look σ x = some (.func (.func f) #[] cap.toArray)) (hx : looks σ xs = some vs) (hfn : IsFn P f) (w : World) :
    (execOp ρ ⟨dd, .call { callee := .value x, args := xs.toArray, argTypes := tys }, t, pos, af, gd⟩).run P w = .ok (.enter f (vs ++ cap).toArray) w := by
  have e := hρ.list xs vs hx
  have ef := hρ x _ hf
  simp [execOp, resolve, ef, Deferred.ofValue, invoke, e, run_callFunc_enter hfn]
/-- a call of a function value -/
theorem TL.callV {f : FuncId} {x : Operand} {xs : List Operand} {tys : Array TypeId} {vs cap : List Value} (hfn : IsFn P f) (hf : look σ x = some (.func (.func f) #[] cap.toArray)) (hx : looks σ xs = some vs) (hd : Nat.blt d N = true)
    (k : Cl P f (vs ++ cap).toArray w (Back P N ops Q rest d σ)) :
    TL P N .seq ops Q (⟨some d, .call { callee := .value x, args := xs.toArray, argTypes := tys }, t, pos, af, none⟩ :: rest) σ w := by
  unfold TL
  intro a ha
  refine wpList_plain rfl fun K hK => ?_
  unfold Oper.wp
  rw [exec_callV ha.agree hf hx hfn]
  refine Calls.mono k.out ?_
  intro e w' hb
  unfold Back at hb
  obtain ⟨v, rfl, hk⟩ := hb
  unfold TL at hk
  exact hK _ _ (hk _ (ha.put hd v))
/-- append to a slice without room -/
theorem TL.appendE {α : Type} {f : α → Value} (h1 : ∀ u, (f u).oneCell' = true) {x y : Operand} {ty e : TypeId} [hT : USlice P ty e] {z : Value} {b1 : Nat} [hS : USize P e z 1 b1] (hzc : z.cells.size = 1) {b m c' B : Nat} {A' : Option Addr} {l' : List α}
    (hx : look σ x = some (.slice (some ⟨b, 0, none⟩) 0 0)) (hy : look σ y = some (.slice A' m c')) (hd : Nat.blt d N = true) (hs : Sl f w.heap B A' m c' l')
    (hroom : m * b1 ≤ 140737488355328 ∧ m ≤ 9223372036854775807) (hb : Bk f w.heap b e [])
    (K : ∀ w' A2 c2, Sl f w'.heap w'.heap.size A2 m c2 l' → Ext w w' → (m = 0 ∨ Ow f w'.heap w.heap.size e A2 m c2 l') → TL P N .seq ops Q rest ((d, .slice A2 m c2) :: σ) w') :
    TL P N .seq ops Q (⟨some d, .call { callee := .builtin .append, args := #[x, y], argTypes := #[ty, ty] }, t, pos, af, none⟩ :: rest) σ w := by
  obtain ⟨i, hi, hz0, hsz, hby⟩ := hS.info
  have hl' := hs.len
  have hbb : w.heap[b]? = some (.cells #[] e (0, 0)) := by unfold Bk at hb; simpa using hb
  rcases Nat.eq_zero_or_pos m with h0 | h0
  · subst h0
    have hl0 : l' = [] := List.eq_nil_of_length_eq_zero hl'
    subst hl0
    refine TL.op (fun ρ hρ => ?_) hd (K w (some ⟨b, 0, none⟩) 0 (Sl.nil _ _ _ _ _) (Ext.refl _) (.inl rfl))
    have hown : w.ownsRow 0 e 1 (.slice (some ⟨b, 0, none⟩) 0 0) 0 [] := ⟨rfl, .inr ⟨b, 0, #[], rfl, Nat.zero_le _, hbb, Nat.le_refl _, Nat.zero_le _, rfl, rfl⟩⟩
    cases A' with
    | none =>
      have := run_append_of_nil (ty := t) hT.out hi hown c'
      simp [execOp, resolve, invoke, builtin, hρ x _ hx, hρ y _ hy, this]
    | some a =>
      have hr := run_append_room (P := P) w ty t e i hT.out hi b 0 0 #[] hbb a 0 c' [] (by simp) (fun j u hj => by simp at hj) (fun u hu => by cases hu) (Nat.le_refl _) (by simp)
      have hself := setRow_self w b #[] e (0, 0) hbb
      simp at hr
      rw [hself] at hr
      simp [execOp, resolve, invoke, builtin, hρ x _ hx, hρ y _ hy, hr]
  · rcases hs.mem with h | ⟨b', o, rfl, _, _⟩
    · omega
    have hr := run_append_grow (P := P) w ty t e i z hT.out hi hz0 ⟨b, 0, none⟩ 0 0 [] (by simp) (fun j u hj => by simp at hj) ⟨b', o, none⟩ m c' (l'.map f) (by simp [hl', hsz]) (sl_cells hs rfl (by omega)) (by omega) (by omega) (growslice_fits (by omega) (by rw [hby]; simpa using hroom.1))
    have hge := grownCap_ge w (0 + m) 0 e
    have hcm : grownCap w (0 + m) 0 e ≤ maxLen := grownCap_le_maxLen w (0 + m) 0 e (by unfold maxLen; omega)
    simp only [Nat.zero_add] at hr hge hcm
    have hB : ∀ cap, m ≤ cap → cap ≤ maxLen → Ow f (w.drew.alloc (.cells (([] : List Value).toArray ++ (l'.map f).toArray ++ Builtin.zeroCells z.cells (cap - m)) e)).heap w.heap.size e (some ⟨w.heap.size, 0, none⟩) m cap l' := by
      intro cap h1 h2
      unfold Ow
      refine ⟨hl', .inr ⟨w.heap.size, _, rfl, Nat.le_refl _, heap_alloc_new w.drew _, h1, h2, ?_, ?_⟩⟩
      · simp [size_zeroCells, hzc, hl']; omega
      · simp [hl']
    have hE : ∀ o, Ext w (w.drew.alloc o) := fun o => ⟨rfl, rfl, rfl, by simp, fun k hk => heap_alloc_old w.drew _ (by simpa using hk)⟩
    refine TL.op (fun ρ hρ => ?_) hd (K _ _ _ ((hB _ hge hcm).sl (Nat.le_refl _)) (hE _) (.inr (hB _ hge hcm)))
    simp [execOp, resolve, invoke, builtin, hρ x _ hx, hρ y _ hy, hr]
/-- a slice stored into a slice of slices -/
theorem TL.storeS {x y : Operand} {ty e : TypeId} {z0 : Value} {b1 : Nat} [hS : USize P ty z0 1 b1] {b k : Nat} {l : List (SA Nat)} {A : Option Addr} {n c : Nat} (u : SA Nat) (hu : u.A = A ∧ u.n = n ∧ u.c = c)
    (hx : look σ x = some (.pointer (elemA (some ⟨b, 0, none⟩) k))) (hy : look σ y = some (.slice A n c)) (hB : Bk sav w.heap b e l) (hk : k < l.length)
    (K : ∀ w', Bk sav w'.heap b e (l.set k u) → Upd b w w' → TL P N .seq ops Q rest σ w') :
    TL P N .seq ops Q (⟨none, .store ty x y, t, pos, af, none⟩ :: rest) σ w := by
  obtain ⟨rfl, rfl, rfl⟩ := hu
  have := TL.store (P := P) (N := N) (ops := ops) (Q := Q) (rest := rest) (ty := ty) (t := t) (pos := pos) (af := af) (f := sav) (o := 0) (k := k) (u := u) rfl rfl (by rw [hx]; simp [elemA, add_mk]) hy hB (by omega)
  rw [Nat.zero_add] at this
  exact this K
end
end Go.Eng
namespace Go.Eng
open Go Go.RowKit

section
variable {P : Program} {N : Nat} {Q : Exit → Act → World → Prop} {σ : Store} {w : World} {ops : Array Oper} {d : Nat} {t : TypeId} {pos : String} {af : Array Edge} {rest : List Oper} {l : List Oper}
theorem T.regionX (id : Nat) (f : Nat) (t : Rt) (hm : P.follows .mixedOrders = true) (hB : treeB l.toArray f t = true) (h : ∀ w1 : World, w1.heap.size = w.heap.size → Ext w w1 → TF P N l Q (fun w' => Ext w w') f t σ w1) : T P N (.region id l.toArray true) Q σ w :=
  T.regionE id f t hm hB (h (w.drewN 1) (by simp) (ext_drewN w 1))
theorem TL.nilX (h : ∀ w1 : World, w1.heap.size = w.heap.size → Ext w w1 → G N .normal Q σ w1) : TL P N .quiet ops Q [] σ w := TL.nilQ fun n => h _ (by simp) (ext_drewN w n)
theorem Pure.clX {f : FuncId} {args : Array Value} {v : Value} (h : Pure P f args w.heap v) : Cl P f args w fun e w' => e = .returned v ∧ w'.heap.size = w.heap.size ∧ Ext w w' := h.cl.mono fun e w' ⟨he, n, hw⟩ => ⟨he, by rw [hw]; simp, by rw [hw]; exact ext_drewN w n⟩
theorem box_lo {w0 w1 : World} {b : Nat} (hE : Ext w0 w1) (e : b = w1.heap.size) : w0.heap.size ≤ b := by have := hE.size; omega
theorem Vr.updX {w w' : World} {b g : Nat} {t : TypeId} {cs : List Value} (hu : Upd g w w') (h : Vr w.heap b t cs) (hne : b ≠ g) : Vr w'.heap b t cs := h.upd hu hne
theorem ext_upd {w0 w1 w2 : World} {b : Nat} (hu : Upd b w1 w2) (hE : Ext w0 w1) (hb : w0.heap.size ≤ b) : Ext w0 w2 := Ext.upd hE hu hb
theorem TL.storeVX {x y : Operand} {ty e : TypeId} {z : Value} {sz b1 : Nat} [hS : USize P ty z sz b1] {b o : Nat} {cs r vs : List Value} (hx : look σ x = some (.pointer (some ⟨b, o, none⟩))) (hy : look σ y = some (.agg vs.toArray))
    (hsz : Nat.beq vs.length sz = true) (h1 : vs.all (·.oneCell') = true) (h : Vr w.heap b e cs ∧ putO cs o vs = some r)
    (K : ∀ w', Vr w'.heap b e r → Upd b w w' → w'.heap.size = w.heap.size → TL P N .seq ops Q rest σ w') : TL P N .seq ops Q (⟨none, .store ty x y, t, pos, af, none⟩ :: rest) σ w :=
  TL.storeVA hx hy hsz h1 h.1 h.2 fun w' h1 h2 => K w' h1 h2 h2.size
theorem TL.storeX {x y : Operand} {ty e : TypeId} {z : Value} {b1 : Nat} [hS : USize P ty z 1 b1] {b o : Nat} {cs r : List Value} {v : Value} (hx : look σ x = some (.pointer (some ⟨b, o, none⟩))) (hy : look σ y = some v) (hvs : v.cells.toList = [v]) (h1 : v.oneCell' = true) (h : Vr w.heap b e cs ∧ putO cs o [v] = some r)
    (K : ∀ w', Vr w'.heap b e r → Upd b w w' → w'.heap.size = w.heap.size → TL P N .seq ops Q rest σ w') : TL P N .seq ops Q (⟨none, .store ty x y, t, pos, af, none⟩ :: rest) σ w :=
  TL.storeV hx hy hvs h1 h.1 h.2 fun w' h1 h2 => K w' h1 h2 h2.size
end
section
variable {P : Program} {σ : Store} {H : Array Obj} {d : Option Tmp} {t : TypeId} {pos : String} {af : Array Edge} {gd : Option (Nat × Bool)}
theorem ev_loadVX {x : Operand} {ty e : TypeId} [hO : UOne P ty] {b o : Nat} {cs : List Value} {v : Value} (hx : look σ x = some (.pointer (some ⟨b, o, none⟩))) (h : Vr H b e cs ∧ nthV cs o = some v) : Ev P σ H ⟨d, .load ty x, t, pos, af, gd⟩ v := ev_loadV hx h.1 h.2
theorem ev_loadVAX {x : Operand} {ty e : TypeId} [hA : UAgg P ty] {z : Value} {sz b1 : Nat} [hS : USize P ty z sz b1] {b o : Nat} {cs cs' : List Value} (hx : look σ x = some (.pointer (some ⟨b, o, none⟩))) (h : Vr H b e cs ∧ subV cs o sz = some cs') :
    Ev P σ H ⟨d, .load ty x, t, pos, af, gd⟩ (.agg cs'.toArray) := ev_loadVA hx h.1 h.2
end

theorem putV_of_O : ∀ (cs : List Value) (off : Nat) (vs r : List Value), putO cs off vs = some r → putV cs off vs = r
  | cs, off, [], r, h => by simp [putO] at h; rw [putV_nil, h]
  | [], off, v :: vs, r, h => by simp [putO] at h
  | c :: cs, 0, v :: vs, r, h => by
    simp only [putO] at h
    cases hq : putO cs 0 vs with
    | none => rw [hq] at h; simp at h
    | some l => rw [hq] at h; simp at h; subst h; simp [putV, putV_of_O cs 0 vs l hq]
  | c :: cs, off + 1, v :: vs, r, h => by
    simp only [putO] at h
    cases hq : putO cs off (v :: vs) with
    | none => rw [hq] at h; simp at h
    | some l => rw [hq] at h; simp at h; subst h; simp [putV, putV_of_O cs off (v :: vs) l hq]
def nthP : List (Nat × Nat) → Nat → Option (Nat × Nat)
  | [], _ => none
  | p :: _, 0 => some p
  | _ :: l, i + 1 => nthP l i
theorem nthP_eq (l : List (Nat × Nat)) (i : Nat) : nthP l i = l[i]? := by
  induction l generalizing i with
  | nil => rfl
  | cons v l ih => cases i <;> simp [nthP, ih]
def fillO (pl : List (Nat × Nat)) : List Value → List (Nat × Value) → Option (List Value)
  | cs, [] => some cs
  | cs, (i, v) :: rest => match nthP pl i with
    | none => none
    | some (off, size) => match Nat.beq v.cells.toList.length size && Nat.ble (off + size) cs.length with
      | true => match putO cs off v.cells.toList with
        | some cs' => fillO pl cs' rest
        | none => none
      | false => none
theorem fillO_eq {pl : List (Nat × Nat)} : ∀ (parts : List (Nat × Value)) (cs r : List Value), fillO pl cs parts = some r → fillV pl cs parts = some r
  | [], cs, r, h => by simpa [fillO, fillV] using h
  | (i, v) :: rest, cs, r, h => by
    simp only [fillO, nthP_eq] at h
    cases hp : pl[i]? with
    | none => rw [hp] at h; simp at h
    | some os =>
      obtain ⟨off, size⟩ := os
      rw [hp] at h
      simp only at h
      cases hb : (Nat.beq v.cells.toList.length size && Nat.ble (off + size) cs.length) with
      | false => rw [hb] at h; simp at h
      | true =>
        rw [hb] at h
        simp only at h
        cases hq : putO cs off v.cells.toList with
        | none => rw [hq] at h; simp at h
        | some cs' =>
          rw [hq] at h
          simp only at h
          simp only [fillV, hp]
          rw [hb, putV_of_O _ _ _ _ hq]
          simpa using fillO_eq rest cs' r h
section
variable {P : Program} {σ : Store} {H : Array Obj} {d : Option Tmp} {t : TypeId} {pos : String} {af : Array Edge} {gd : Option (Nat × Bool)}
theorem ev_buildX {ty : TypeId} {pl : List (Nat × Nat)} [hU : UStruct P ty pl] {z : List Value} {sz b1 : Nat} [hS : USize P ty (.agg z.toArray) sz b1] {parts : List (Nat × Operand)} {vs : List (Nat × Value)} {r : List Value}
    (hp : looksP σ parts = some vs) (hr : fillO pl z vs = some r) : Ev P σ H ⟨d, .build ty parts.toArray, t, pos, af, gd⟩ (.agg r.toArray) := ev_build hp (fillO_eq _ _ _ hr)
end

theorem Sm.upd {α : Type} {k : Nat} {f : α → List Value} {w w' : World} {B n c b : Nat} {A : Option Addr} {l : List α} (hu : Upd b w w') (h : Sm k f w.heap B A n c l) (hb : B ≤ b) : Sm k f w'.heap B A n c l := h.below (hu.below hb)
/-- no word among the cells -/
def noU64 : Value → Bool
  | .int .u64 _ => false
  | _ => true
theorem off_var {α : Type} {f : α → Value} (hf : ∀ x, noU64 (f x) = false) {H : Array Obj} {B n c b : Nat} {A : Option Addr} {l : List α} {t : TypeId} {cs : List Value} (h : Sl f H B A n c l) (hV : Vr H b t cs) (hc : cs.all noU64 = true) : n = 0 ∨ ∀ a, A = some a → a.block ≠ b := by
  rcases h.mem with h0 | ⟨b', o, rfl, _, hm⟩
  · exact .inl h0
  · rcases Nat.eq_zero_or_pos n with h0 | h0
    · exact .inl h0
    · refine .inr fun a ha hab => ?_
      cases ha
      simp only at hab
      subst hab
      have hl : 0 < l.length := by have := h.len; omega
      have h1 := hm 0 l[0] (List.getElem?_eq_getElem hl)
      rw [hV.cell] at h1
      have h2 := List.all_eq_true.1 hc _ (List.mem_of_getElem? h1)
      rw [hf] at h2
      cases h2
theorem sl_updV {w w' : World} {B n c b : Nat} {A : Option Addr} {l : List Nat} {t : TypeId} {cs : List Value} (hu : Upd b w w') (hV : Vr w.heap b t cs) (hc : cs.all noU64 = true) (h : Sl u64v w.heap B A n c l) : Sl u64v w'.heap B A n c l := by
  have ho := off_var (fun x => rfl) h hV hc
  refine ⟨h.len, h.cap, ?_⟩
  rcases h.mem with h0 | ⟨b', o, e, hlt, hm⟩
  · exact .inl h0
  · rcases ho with h0 | ho
    · exact .inl h0
    · refine .inr ⟨b', o, e, hlt, fun j x hx => ?_⟩
      have hne : b' ≠ b := ho _ e
      have := hm j x hx
      unfold hcell at this ⊢
      rw [hu.block b' hne]
      exact this
/-- an integer in memory: its sign's flag and its words -/
structure IV where
  neg : Bool
  m : SA Nat
instance : Inhabited IV := ⟨⟨false, default⟩⟩
def ivc (x : IV) : List Value := [.bool x.neg, .slice x.m.A x.m.n x.m.c]
/-- a matrix in memory -/
structure MV where
  r : Int
  c : Int
  A : Option Addr
  n : Nat
  k : Nat
  l : List IV
instance : Inhabited MV := ⟨⟨0, 0, none, 0, 0, []⟩⟩
def mvc (x : MV) : List Value := [.int .i64 x.r, .int .i64 x.c, .slice x.A x.n x.k]
end Go.Eng
namespace Go.Eng
open Go Go.RowKit

theorem flatMap_len {α : Type} {f : α → List Value} {k : Nat} {l : List α} (hw : ∀ x ∈ l, (f x).length = k) : (l.flatMap f).length = l.length * k := by
  induction l with
  | nil => simp
  | cons x l ih =>
    rw [List.flatMap_cons, List.length_append, hw x (List.mem_cons_self ..), ih (fun y hy => hw y (List.mem_cons_of_mem _ hy)), List.length_cons, Nat.add_mul]
    omega
theorem flatMap_get {α : Type} {f : α → List Value} {k : Nat} : ∀ {l : List α} (hw : ∀ x ∈ l, (f x).length = k) (j q : Nat) (x : α), l[j]? = some x → q < k → (l.flatMap f)[j * k + q]? = (f x)[q]?
  | [], hw, j, q, x, h, hq => by simp at h
  | y :: l, hw, 0, q, x, h, hq => by
    simp at h
    subst h
    rw [List.flatMap_cons, Nat.zero_mul, Nat.zero_add, List.getElem?_append_left (by rw [hw y (List.mem_cons_self ..)]; exact hq)]
  | y :: l, hw, j + 1, q, x, h, hq => by
    rw [List.getElem?_cons_succ] at h
    have hy := hw y (List.mem_cons_self ..)
    rw [List.flatMap_cons, List.getElem?_append_right (by rw [hy, Nat.add_mul]; omega), hy, show (j + 1) * k + q - k = j * k + q by rw [Nat.add_mul]; omega]
    exact flatMap_get (fun z hz => hw z (List.mem_cons_of_mem _ hz)) j q x h hq
/-- a slice at the head of a block known whole -/
theorem vr_sm {α : Type} {f : α → List Value} {k : Nat} {H : Array Obj} {b B n c : Nat} {t : TypeId} {l : List α} {zs : List Value} (hk : 0 < k) (hw : ∀ x ∈ l, (f x).length = k) (hV : Vr H b t (l.flatMap f ++ zs)) (hn : l.length = n) (hc : n ≤ c) (hb : b < B) : Sm k f H B (some ⟨b, 0, none⟩) n c l := by
  refine ⟨hn, hc, hk, hw, .inr ⟨b, 0, rfl, hb, fun j x hx q v hv => ?_⟩⟩
  have hq : q < k := by have := (List.getElem?_eq_some_iff.1 hv).1; rwa [hw x (List.mem_of_getElem? hx)] at this
  have hj := (List.getElem?_eq_some_iff.1 hx).1
  rw [Nat.zero_add, hV.cell, List.getElem?_append_left, flatMap_get hw j q x hx hq, hv]
  rw [flatMap_len hw]
  have : (j + 1) * k ≤ l.length * k := Nat.mul_le_mul_right _ hj
  rw [Nat.add_mul] at this
  omega
section
variable {P : Program} {N : Nat} {Q : Exit → Act → World → Prop} {σ : Store} {w : World} {ops : Array Oper} {d : Nat} {t : TypeId} {pos : String} {af : Array Edge} {rest : List Oper}
/-- a new block of structs -/
theorem TL.makeX {x y : Operand} {ty e : TypeId} [hT : USlice P ty e] {z : List Value} {sz b1 : Nat} [hS : USize P e (.agg z.toArray) sz b1] {k k' : IntKind} {z1 z2 : Int} {n c : Nat} [e1 : IsN z1 n] [e2 : IsN z2 c]
    (hx : look σ x = some (.int k z1)) (hy : look σ y = some (.int k' z2)) (hd : Nat.blt d N = true) (hn : n ≤ c) (hc : b1 * c ≤ 281474976710656 ∧ c ≤ 9223372036854775807) (hz : z.all noU64 = true) (hzl : Nat.beq z.length sz = true) (hz0 : Nat.blt 0 sz = true)
    (K : ∀ w' b zs, b = w.heap.size → zs.length = c * sz → zs.all noU64 = true → Vr w'.heap b e zs → Ext w w' → w'.heap.size = w.heap.size + 1 → TL P N .seq ops Q rest ((d, .slice (some ⟨b, 0, none⟩) n c) :: σ) w') :
    TL P N .seq ops Q (⟨some d, .makeSlice ty x y, t, pos, af, none⟩ :: rest) σ w := by
  obtain rfl := e1.out
  obtain rfl := e2.out
  obtain ⟨i, hi, hz0', hsz, hby⟩ := hS.info
  have hb : (i.bytes : Int) * (c : Int) ≤ 281474976710656 := by
    have h : ((i.bytes * c : Nat) : Int) ≤ 281474976710656 := by rw [hby]; omega
    rwa [Int.natCast_mul] at h
  have hr := fun (w : World) => run_make (P := P) w ty e i (.agg z.toArray) hT.out hi hz0' k k' (n : Int) (c : Int) (by omega) (by omega) hb (by omega)
  simp only [Int.toNat_natCast, hsz] at hr
  have hzl' := Nat.eq_of_beq_eq_true hzl
  have hsz0 : 0 < sz := by simpa [Nat.blt_eq] using hz0
  refine TL.op (w' := w.alloc (.cells (madeCells z.toArray (c * sz)) e)) (fun ρ hρ => ?_) hd (K _ _ (madeCells z.toArray (c * sz)).toList rfl (by simp [madeCells]) ?_ ?_ (ext_alloc _ _) (size_alloc _ _))
  · simp [execOp, hρ x _ hx, hρ y _ hy]
    have := hr w
    simp only [Value.cells] at this
    simp [this]
  · rw [List.all_eq_true]
    intro v hv
    simp only [madeCells, Array.toList_map, List.mem_map] at hv
    obtain ⟨q, _, rfl⟩ := hv
    have hlt : q % z.toArray.size < z.length := by simp only [List.size_toArray]; exact Nat.mod_lt _ (by omega)
    have hlt2 : q % z.length < z.length := by simpa using hlt
    have : z.toArray[q % z.toArray.size]! = z[q % z.toArray.size] := by simp [List.getElem?_eq_getElem hlt2]
    rw [this]
    exact List.all_eq_true.1 hz _ (List.getElem_mem hlt)
  · unfold Vr
    rw [heap_alloc]
/-- append of one struct in place -/
theorem TL.appendX {α : Type} {f : α → List Value} {x y : Operand} {ty e : TypeId} [hT : USlice P ty e] {z : Value} {k b1 : Nat} [hS : USize P e z k b1] (h1 : ∀ u, (f u).all (·.oneCell') = true) {b n c B c' : Nat} {A' : Option Addr} {l : List α} {u : α} {zs : List Value}
    (hx : look σ x = some (.slice (some ⟨b, 0, none⟩) n c)) (hy : look σ y = some (.slice A' 1 c')) (hd : Nat.blt d N = true) (hs : Sm k f w.heap B A' 1 c' [u]) (hV : Vr w.heap b e (l.flatMap f ++ zs)) (hw : ∀ x ∈ l, (f x).length = k) (hn : l.length = n) (hc : n + 1 ≤ c) (hzs : zs.length = (c - n) * k)
    (K : ∀ w', Vr w'.heap b e ((l ++ [u]).flatMap f ++ zs.drop k) → Upd b w w' → w'.heap.size = w.heap.size → TL P N .seq ops Q rest ((d, .slice (some ⟨b, 0, none⟩) (n + 1) c) :: σ) w') :
    TL P N .seq ops Q (⟨some d, .call { callee := .builtin .append, args := #[x, y], argTypes := #[ty, ty] }, t, pos, af, none⟩ :: rest) σ w := by
  obtain ⟨i, hi, hz0, hsz, hby⟩ := hS.info
  have hu := hs.wid u (by simp)
  have hl : (l.flatMap f).length = n * k := by rw [flatMap_len hw, hn]
  have hk := hs.pos
  have hck : k ≤ (c - n) * k := Nat.le_mul_of_pos_left _ (by omega)
  rcases hs.mem with h | ⟨b', o, rfl, _, hm⟩
  · omega
  have hnews : ∀ j v, (f u)[j]? = some v → w.cell? ((⟨b', o, none⟩ : Addr).add j) = some v := fun j v hv => by
    have := hm 0 u rfl j v hv
    rw [Nat.zero_mul, Nat.zero_add] at this
    rw [add_mk, cell_of_hcell]; exact this
  have hr := run_append_room (P := P) w ty t e i hT.out hi b n c (l.flatMap f ++ zs).toArray hV ⟨b', o, none⟩ 1 c' (f u) (by rw [hu, hsz, Nat.one_mul]) hnews (fun v hv => List.all_eq_true.1 (h1 u) v hv) hc (by simp [hl, hsz, hu, hzs]; exact hck)
  refine TL.op (w' := w.setRow b ((l.flatMap f) ++ f u ++ zs.drop k).toArray) (fun ρ hρ => ?_) hd (K _ ?_ (upd_setRow _ _ _) (by simp [World.setRow]))
  · simp only [execOp, resolve, invoke, builtin, Sem.run_bind, Sem.run_pure, Result.andThen_ok, List.map_toArray, List.map_cons, List.map_nil, hρ x _ hx, hρ y _ hy]
    rw [hr]
    simp only [Result.andThen_ok, Sem.run_pure, hsz]
    have e1 : List.take (n * k) (l.flatMap f ++ zs) = l.flatMap f := by rw [← hl, List.take_left]
    have e2 : List.drop (n * k + (f u).length) (l.flatMap f ++ zs) = zs.drop k := by rw [← hl, hu, List.drop_append, List.drop_of_length_le (by omega)]; simp
    rw [e1, e2]
  · unfold Vr at hV ⊢
    rw [setRow_heap w b _ _ e _ hV, List.flatMap_append]
    simp
/-- a struct stored into the next free place -/
theorem TL.storeElem {α : Type} {f : α → List Value} {x y : Operand} {ty e : TypeId} {z : Value} {k b1 : Nat} [hS : USize P ty z k b1] {b i : Nat} {l : List α} {u : α} {zs vs : List Value}
    (hx : look σ x = some (.pointer (elemA (some ⟨b, 0, none⟩) (i * k)))) (hy : look σ y = some (.agg vs.toArray)) (hvs : f u = vs) (h1 : vs.all (·.oneCell') = true) (hV : Vr w.heap b e (l.flatMap f ++ zs)) (hw : ∀ x ∈ l, (f x).length = k) (hi : l.length = i) (hl : vs.length = k) (hzs : k ≤ zs.length)
    (K : ∀ w', Vr w'.heap b e ((l ++ [u]).flatMap f ++ zs.drop k) → Upd b w w' → w'.heap.size = w.heap.size → TL P N .seq ops Q rest σ w') : TL P N .seq ops Q (⟨none, .store ty x y, t, pos, af, none⟩ :: rest) σ w := by
  subst hvs
  have hlen : (l.flatMap f).length = i * k := by rw [flatMap_len hw, hi]
  obtain ⟨ii, hii, _, hsz', _⟩ := hS.info
  have hst := run_storeCells_at P b (0 + i * k) e (f u) 0 (l.flatMap f ++ zs).toArray w hV (by simp [hlen, hl]; omega) (fun v hv => List.all_eq_true.1 h1 v hv)
  simp only [Nat.add_zero, Nat.zero_add] at hst
  refine TL.op0 (w' := w.setRow b ((l.flatMap f) ++ f u ++ zs.drop k).toArray) (fun ρ hρ => ?_) (K _ ?_ (upd_setRow _ _ _) (by simp [World.setRow]))
  · have e0 : look σ x = some (.pointer (some ⟨b, i * k, none⟩)) := by rw [hx]; simp [elemA, add_mk]
    simp [execOp, hρ x _ e0, hρ y _ hy, Instr.storeAt, Instr.sureAddr, storeVar, sizeOf, typeInfo, hii, hsz', Value.cells, hl]
    rw [hst]
    have e1 : List.take (i * k) (l.flatMap f ++ zs) = l.flatMap f := by rw [← hlen, List.take_left]
    have e2 : List.drop (i * k + (f u).length) (l.flatMap f ++ zs) = zs.drop k := by rw [← hlen, hl, List.drop_append, List.drop_of_length_le (by omega)]; simp
    simp [e1, e2]
  · unfold Vr at hV ⊢
    rw [setRow_heap w b _ _ e _ hV, List.flatMap_append]
    simp
/-- a literal of one struct -/
theorem TL.buildX1 {α : Type} {f : α → List Value} {x : Operand} {ty e : TypeId} [hT : USlice P ty e] {z : List Value} {sz b1 : Nat} [hS : USize P e (.agg z.toArray) sz b1] {u : α} {vs : List Value} (hx : look σ x = some (.agg vs.toArray)) (hvs : f u = vs) (hd : Nat.blt d N = true) (hl : Nat.beq vs.length sz = true) (hzl : Nat.beq z.length sz = true) (h0 : Nat.blt 0 sz = true) (h16 : Nat.ble sz 1000 = true)
    (K : ∀ w' b, b = w.heap.size → Vr w'.heap b e (f u) → Sm sz f w'.heap w'.heap.size (some ⟨b, 0, none⟩) 1 1 [u] → Ext w w' → w'.heap.size = w.heap.size + 1 → TL P N .seq ops Q rest ((d, .slice (some ⟨b, 0, none⟩) 1 1) :: σ) w') :
    TL P N .seq ops Q (⟨some d, .buildSlice ty 1 #[(0, x)], t, pos, af, none⟩ :: rest) σ w := by
  subst hvs
  obtain ⟨i, hi, hz0, hsz, hby⟩ := hS.info
  have hlen := Nat.eq_of_beq_eq_true hl
  have hzlen := Nat.eq_of_beq_eq_true hzl
  have hpos : 0 < sz := by simpa [Nat.blt_eq] using h0
  have h16' : sz ≤ 1000 := by simpa [Nat.ble_eq] using h16
  have hm : ((Array.range (1 * i.size)).map (fun q => z.toArray[q % z.toArray.size]!)) = z.toArray := by
    apply Array.ext
    · simp [hsz, hzlen]
    · intro q h1 h2
      simp at h2
      simp [Nat.mod_eq_of_lt h2, getElem!_pos, h2]
  have hfill : Instr.fill (fun j => some (j * i.size, i.size)) z.toArray [(0, Value.agg (f u).toArray)] = some (f u).toArray := by
    have e2 : Array.foldl (fun (cs : Array Value) (p : Value × Nat) => cs.setIfInBounds (0 * i.size + p.2) p.1) z.toArray (f u).toArray.zipIdx = (f u).toArray := by
      apply Array.ext'
      have := foldl_put (f u) 0 0 z.toArray
      rw [Nat.zero_mul, ← Array.foldl_toList, Array.toList_zipIdx]
      simp only [Nat.add_zero] at this
      rw [this]
      apply List.ext_getElem?
      intro j
      rw [putV_get]
      simp only [Nat.zero_le, true_and, Nat.zero_add, Nat.sub_zero]
      split
      · rfl
      · rename_i hj
        have hge : sz ≤ j := by simp only [hlen, List.toList_toArray, hzlen] at hj; omega
        rw [List.getElem?_eq_none (by simp [hzlen]; omega), List.getElem?_eq_none (by omega)]
    have e3 : (decide ((Value.agg (f u).toArray).cells.size ≠ i.size) || decide (0 * i.size + (Value.agg (f u).toArray).cells.size > z.toArray.size)) = false := by simp [Value.cells, hsz, hlen, hzlen]
    unfold Instr.fill
    simp only [e3]
    unfold Instr.fill
    exact congrArg some e2
  have hrun : (Instr.buildSlice ty 1 #[(0, Value.agg (f u).toArray)]).run P w = .ok (.slice (some ⟨w.heap.size, 0, none⟩) 1 1) (w.alloc (.cells (f u).toArray e)) := by
    refine run_buildSlice w ty e 1 _ (f u).toArray i (.agg z.toArray) hT.out hi hz0 (by rw [hsz]; omega) (by rw [hsz]; omega) ?_
    simp only [Value.cells]
    rw [hm]
    exact hfill
  refine TL.op (w' := w.alloc (.cells (f u).toArray e)) (fun ρ hρ => ?_) hd (K _ _ rfl (by unfold Vr; rw [heap_alloc]) ?_ (ext_alloc _ _) (size_alloc _ _))
  · simp [execOp, hρ x _ hx, hrun]
  · have hV : Vr (w.alloc (.cells (f u).toArray e)).heap w.heap.size e ([u].flatMap f ++ []) := by unfold Vr; rw [heap_alloc]; simp
    exact vr_sm hpos (fun x hx => by rw [List.mem_singleton] at hx; subst hx; exact hlen) hV rfl (Nat.le_refl _) (by simp)
end
section
variable {P : Program} {N : Nat} {Q : Exit → Act → World → Prop} {S : World → Prop} {σ : Store} {w : World} {l : List Oper} {f : Nat}
/-- a guarded operation whose guard says yes -/
theorem TF.sg {i : Nat} {t : Rt} {d : Nat} {op : Op} {ty : TypeId} {pos : String} {af : Array Edge} {v : Value} {j s : Nat} {want b : Bool} (hi : pick1 l i = some ⟨some d, op, ty, pos, af, some (j, want)⟩) (hj : (pick1 l j).bind (·.dst) = some s) (hb : look1 σ s = some (.bool b)) (heq : (b == want) = true)
    (h : ∀ w', S w' → Ev P σ w'.heap ⟨some d, op, ty, pos, af, some (j, want)⟩ v) (hd : Nat.blt d N = true) (k : TF P N l Q S f t ((d, v) :: σ) w) : TF P N l Q S f (.s i t) σ w := by
  unfold TF at *
  intro a ha
  refine ⟨_, v, pick_at hi, .inl ⟨?_, fun w' hw' => by have := h w' hw'; unfold Ev at this; exact this _ w' ha.agree rfl⟩, k _ (ha.put hd v)⟩
  have hj' : (l.toArray[j]?).bind (·.dst) = some s := by rw [List.getElem?_toArray, ← pick1_eq]; exact hj
  simp only [Region.wanted, yielded_of ha hj' hb]
  cases b <;> cases want <;> simp_all
/-- a guarded operation whose guard says no -/
theorem TF.sn {i : Nat} {t : Rt} {d : Nat} {op : Op} {ty : TypeId} {pos : String} {af : Array Edge} {j s : Nat} {want b : Bool} (hi : pick1 l i = some ⟨some d, op, ty, pos, af, some (j, want)⟩) (hj : (pick1 l j).bind (·.dst) = some s) (hb : look1 σ s = some (.bool b)) (heq : (b == want) = false)
    (hd : Nat.blt d N = true) (k : TF P N l Q S f t ((d, undef) :: σ) w) : TF P N l Q S f (.s i t) σ w := by
  unfold TF at *
  intro a ha
  refine ⟨_, undef, pick_at hi, .inr ⟨?_, rfl⟩, k _ (ha.put hd undef)⟩
  have hj' : (l.toArray[j]?).bind (·.dst) = some s := by rw [List.getElem?_toArray, ← pick1_eq]; exact hj
  simp only [Region.wanted, yielded_of ha hj' hb]
  cases b <;> cases want <;> simp_all
end
end Go.Eng
namespace Go.Eng
open Go Go.RowKit
section
variable {P : Program} {N : Nat} {Q : Exit → Act → World → Prop} {σ : Store} {w : World} {ops : Array Oper} {d : Nat} {t : TypeId} {pos : String} {af : Array Edge} {rest : List Oper}
theorem put_front (a b z : List Value) (h : a.length = z.length) : putV (z ++ b) 0 a = a ++ b := by
  apply List.ext_getElem?
  intro j
  rw [putV_get]
  simp only [Nat.zero_le, true_and, Nat.zero_add, Nat.sub_zero, List.length_append]
  split
  · rename_i hj; rw [List.getElem?_append_left hj.1]
  · rename_i hj
    rcases Nat.lt_or_ge j a.length with h1 | h1
    · omega
    · rw [List.getElem?_append_right (by omega), List.getElem?_append_right h1, h]
theorem put_back (a b z : List Value) (h : b.length = z.length) : putV (a ++ z) a.length b = a ++ b := by
  apply List.ext_getElem?
  intro j
  rw [putV_get]
  simp only [List.length_append]
  split
  · rename_i hj; rw [List.getElem?_append_right hj.1]
  · rename_i hj
    rcases Nat.lt_or_ge j a.length with h1 | h1
    · rw [List.getElem?_append_left h1, List.getElem?_append_left h1]
    · rw [List.getElem?_eq_none (by simp; omega), List.getElem?_eq_none (by simp; omega)]
/-- a literal of two structs -/
theorem TL.buildX2 {α : Type} {f : α → List Value} {x y : Operand} {ty e : TypeId} [hT : USlice P ty e] {z : List Value} {sz b1 : Nat} [hS : USize P e (.agg z.toArray) sz b1] {u v : α} {vs vs' : List Value} (hx : look σ x = some (.agg vs.toArray)) (hy : look σ y = some (.agg vs'.toArray)) (hvs : f u = vs) (hvs' : f v = vs') (hd : Nat.blt d N = true)
    (hl : Nat.beq vs.length sz = true) (hl' : Nat.beq vs'.length sz = true) (hzl : Nat.beq z.length sz = true) (h0 : Nat.blt 0 sz = true) (h16 : Nat.ble sz 1000 = true)
    (K : ∀ w' b, b = w.heap.size → Sm sz f w'.heap w'.heap.size (some ⟨b, 0, none⟩) 2 2 [u, v] → Ext w w' → w'.heap.size = w.heap.size + 1 → TL P N .seq ops Q rest ((d, .slice (some ⟨b, 0, none⟩) 2 2) :: σ) w') :
    TL P N .seq ops Q (⟨some d, .buildSlice ty 2 #[(0, x), (1, y)], t, pos, af, none⟩ :: rest) σ w := by
  subst hvs hvs'
  obtain ⟨i, hi, hz0, hsz, hby⟩ := hS.info
  have hlen := Nat.eq_of_beq_eq_true hl
  have hlen' := Nat.eq_of_beq_eq_true hl'
  have hzlen := Nat.eq_of_beq_eq_true hzl
  have hpos : 0 < sz := by simpa [Nat.blt_eq] using h0
  have h16' : sz ≤ 1000 := by simpa [Nat.ble_eq] using h16
  have hm : ((Array.range (2 * i.size)).map (fun q => z.toArray[q % z.toArray.size]!)) = (z ++ z).toArray := by
    apply Array.ext
    · simp [hsz, hzlen]; omega
    · intro q h1 h2
      simp [hzlen] at h2
      have hmod : q % sz < sz := Nat.mod_lt _ hpos
      simp only [Array.getElem_map, Array.getElem_range, List.size_toArray, hzlen, List.getElem_toArray]
      rcases Nat.lt_or_ge q sz with hq | hq
      · rw [List.getElem_append_left (by omega)]
        simp [Nat.mod_eq_of_lt hq, hzlen, hq]
      · rw [List.getElem_append_right (by omega)]
        have e1 : q % sz = q - z.length := by rw [hzlen, Nat.mod_eq_sub_mod hq, Nat.mod_eq_of_lt (by omega)]
        have h3 : q - z.length < z.length := by omega
        simp [e1, List.getElem?_eq_getElem h3]
  have hfill : Instr.fill (fun j => some (j * i.size, i.size)) (z ++ z).toArray [(0, Value.agg (f u).toArray), (1, Value.agg (f v).toArray)] = some (f u ++ f v).toArray := by
    have p1 : Array.foldl (fun (cs : Array Value) (p : Value × Nat) => cs.setIfInBounds (0 * i.size + p.2) p.1) (z ++ z).toArray (f u).toArray.zipIdx = (f u ++ z).toArray := by
      apply Array.ext'
      have := foldl_put (f u) 0 0 (z ++ z).toArray
      rw [Nat.zero_mul, ← Array.foldl_toList, Array.toList_zipIdx]
      simp only [Nat.add_zero] at this
      rw [this]
      exact put_front _ _ _ (by omega)
    have p2 : Array.foldl (fun (cs : Array Value) (p : Value × Nat) => cs.setIfInBounds (1 * i.size + p.2) p.1) (f u ++ z).toArray (f v).toArray.zipIdx = (f u ++ f v).toArray := by
      apply Array.ext'
      have := foldl_put (f v) 0 sz (f u ++ z).toArray
      rw [hsz, Nat.one_mul, ← Array.foldl_toList, Array.toList_zipIdx]
      simp only [Nat.add_zero] at this
      rw [this, ← hlen]
      exact put_back _ _ _ (by omega)
    have e3 : (decide ((Value.agg (f u).toArray).cells.size ≠ i.size) || decide (0 * i.size + (Value.agg (f u).toArray).cells.size > (z ++ z).toArray.size)) = false := by simp [Value.cells, hsz, hlen, hzlen]
    have e4 : (decide ((Value.agg (f v).toArray).cells.size ≠ i.size) || decide (1 * i.size + (Value.agg (f v).toArray).cells.size > (f u ++ z).toArray.size)) = false := by simp [Value.cells, hsz, hlen, hlen', hzlen]
    unfold Instr.fill
    simp only [e3]
    rw [show (Value.agg (f u).toArray).cells = (f u).toArray from rfl, p1]
    unfold Instr.fill
    simp only [e4]
    rw [show (Value.agg (f v).toArray).cells = (f v).toArray from rfl, p2]
    unfold Instr.fill
    rfl
  have hrun : (Instr.buildSlice ty 2 #[(0, Value.agg (f u).toArray), (1, Value.agg (f v).toArray)]).run P w = .ok (.slice (some ⟨w.heap.size, 0, none⟩) 2 2) (w.alloc (.cells (f u ++ f v).toArray e)) := by
    refine run_buildSlice w ty e 2 _ (f u ++ f v).toArray i (.agg z.toArray) hT.out hi hz0 (by rw [hsz]; omega) (by rw [hsz]; omega) ?_
    simp only [Value.cells]
    rw [hm]
    exact hfill
  refine TL.op (w' := w.alloc (.cells (f u ++ f v).toArray e)) (fun ρ hρ => ?_) hd (K _ _ rfl ?_ (ext_alloc _ _) (size_alloc _ _))
  · simp [execOp, hρ x _ hx, hρ y _ hy, hrun]
  · have hV : Vr (w.alloc (.cells (f u ++ f v).toArray e)).heap w.heap.size e ([u, v].flatMap f ++ []) := by unfold Vr; rw [heap_alloc]; simp
    refine vr_sm hpos (fun x hx => ?_) hV rfl (Nat.le_refl _) (by simp)
    simp only [List.mem_cons, List.not_mem_nil, or_false] at hx
    rcases hx with rfl | rfl <;> assumption
end
end Go.Eng
namespace Go.Eng
open Go Go.RowKit
/-- what stood stands, but for block b -/
structure Exb (b : Nat) (w w' : World) : Prop where
  size : w.heap.size ≤ w'.heap.size
  block : ∀ k, k < w.heap.size → k ≠ b → w'.heap[k]? = w.heap[k]?
theorem Exb.refl (b : Nat) (w : World) : Exb b w w := ⟨Nat.le_refl _, fun _ _ _ => rfl⟩
theorem Exb.ext {b : Nat} {w w1 w2 : World} (h : Exb b w w1) (hE : Ext w1 w2) : Exb b w w2 := ⟨Nat.le_trans h.size hE.size, fun k hk hne => (hE.block k (Nat.lt_of_lt_of_le hk h.size)).trans (h.block k hk hne)⟩
theorem Exb.upd {b : Nat} {w w1 w2 : World} (h : Exb b w w1) (hu : Upd b w1 w2) : Exb b w w2 := ⟨by rw [hu.size]; exact h.size, fun k hk hne => (hu.block k hne).trans (h.block k hk hne)⟩
theorem Vr.exb {b g : Nat} {w w' : World} {t : TypeId} {cs : List Value} (hE : Exb b w w') (h : Vr w.heap g t cs) (hne : g ≠ b) : Vr w'.heap g t cs := (hE.block g h.lt hne).trans h
theorem T.regionXb {P : Program} {N : Nat} {Q : Exit → Act → World → Prop} {σ : Store} {w : World} {l : List Oper} (b : Nat) (id : Nat) (f : Nat) (t : Rt) (hm : P.follows .mixedOrders = true) (hB : treeB l.toArray f t = true) (h : ∀ w1 : World, w1.heap.size = w.heap.size → Ext w w1 → TF P N l Q (fun w' => Exb b w w') f t σ w1) : T P N (.region id l.toArray true) Q σ w :=
  T.regionF _ f t hm hB ((Exb.refl b w).ext (ext_drewN w 1)) (h (w.drewN 1) (by simp) (ext_drewN w 1))
end Go.Eng
namespace Go.Eng
open Go Go.RowKit

/-- no flag -/
def flagless : Value → Bool
  | .bool _ => false
  | _ => true
/-- data stand: a block of F, or with a word among its cells, is as it was -/
structure DE (F : Nat → Prop) (H H' : Array Obj) : Prop where
  size : H.size ≤ H'.size
  block : ∀ (k : Nat) (cs : Array Value) (t : TypeId) (x : Nat × Nat), H[k]? = some (.cells cs t x) → F k ∨ cs.toList.all noU64 = false → H'[k]? = H[k]?
theorem DE.ext {F : Nat → Prop} {w w' : World} (h : Ext w w') : DE F w.heap w'.heap := ⟨h.size, fun k cs t x hk _ => h.block k (Array.getElem?_eq_some_iff.1 hk).1⟩
theorem DE.mono {F F' : Nat → Prop} {H H' : Array Obj} (h : DE F H H') (hF : ∀ k, F' k → F k) : DE F' H H' := ⟨h.size, fun k cs t x hk hc => h.block k cs t x hk (hc.imp (hF k) id)⟩
theorem DE.upd {F : Nat → Prop} {w w' : World} {b : Nat} {t : TypeId} {cs : List Value} (hu : Upd b w w') (hV : Vr w.heap b t cs) (hc : cs.all noU64 = true) (hF : ¬ F b) : DE F w.heap w'.heap :=
  ⟨Nat.le_of_eq hu.size.symm, fun k cs' t' x hk hd => by
    refine hu.block k fun e => ?_
    subst e
    unfold Vr at hV
    rw [hV] at hk
    cases hk
    simp only [List.toList_toArray] at hd
    rw [hc] at hd
    rcases hd with hd | hd
    · exact hF hd
    · cases hd⟩
theorem hcell_eq {H H' : Array Obj} {b i : Nat} {v : Value} (h : H'[b]? = H[b]?) (hv : hcell H b i = some v) : hcell H' b i = some v := by
  unfold hcell at hv ⊢
  rw [h]; exact hv
theorem hcell_obj {H : Array Obj} {b i : Nat} {v : Value} (hv : hcell H b i = some v) : ∃ (cs : Array Value) (t : TypeId) (x : Nat × Nat), H[b]? = some (.cells cs t x) ∧ v ∈ cs.toList := by
  unfold hcell at hv
  split at hv
  · rename_i cs t x hb
    exact ⟨cs, t, x, hb, by rw [Array.mem_toList_iff]; exact Array.mem_of_getElem? hv⟩
  · cases hv
theorem all_false {f : Value → Bool} {l : List Value} {v : Value} (h : v ∈ l) (hf : f v = false) : l.all f = false := by
  cases hq : l.all f with
  | false => rfl
  | true => rw [List.all_eq_true.1 hq v h] at hf; cases hf
/-- the blocks of a slice -/
def fpA (A : Option Addr) (n : Nat) (k : Nat) : Prop := 0 < n ∧ ∃ o, A = some ⟨k, o, none⟩
theorem Sl.de {F : Nat → Prop} {H H' : Array Obj} {B n c : Nat} {A : Option Addr} {l : List Nat} (hd : DE F H H') (h : Sl u64v H B A n c l) : Sl u64v H' B A n c l := by
  refine ⟨h.len, h.cap, ?_⟩
  rcases h.mem with h0 | ⟨b, o, e, hlt, hm⟩
  · exact .inl h0
  · rcases Nat.eq_zero_or_pos n with h0 | h0
    · exact .inl h0
    · have hl : 0 < l.length := by have := h.len; omega
      have h1 := hm 0 l[0] (List.getElem?_eq_getElem hl)
      obtain ⟨cs, t, x, hb, hv⟩ := hcell_obj h1
      have hq := hd.block b cs t x hb (.inr (all_false hv rfl))
      exact .inr ⟨b, o, e, hlt, fun j x hx => hcell_eq hq (hm j x hx)⟩
theorem Sm.de {α : Type} {k : Nat} {f : α → List Value} {F : Nat → Prop} {H H' : Array Obj} {B n c : Nat} {A : Option Addr} {l : List α} (hF : ∀ b, fpA A n b → F b) (hd : DE F H H') (h : Sm k f H B A n c l) : Sm k f H' B A n c l := by
  refine ⟨h.len, h.cap, h.pos, h.wid, ?_⟩
  rcases h.in_heap with h0 | ⟨b, o, e, hlt, hh, hm⟩
  · exact .inl h0
  · rcases Nat.eq_zero_or_pos n with h0 | h0
    · exact .inl h0
    · have hl : 0 < l.length := by have := h.len; omega
      have hw := h.wid l[0] (List.getElem_mem hl)
      have hp := h.pos
      have h1 := hm 0 l[0] (List.getElem?_eq_getElem hl) 0 (f l[0])[0] (List.getElem?_eq_getElem (by omega))
      obtain ⟨cs, t, x, hb, hv⟩ := hcell_obj h1
      have hq := hd.block b cs t x hb (.inl (hF b ⟨h0, o, e⟩))
      exact .inr ⟨b, o, e, hlt, fun j x hx q v hv => hcell_eq hq (hm j x hx q v hv)⟩
theorem Sm.fp_lt {α : Type} {k : Nat} {f : α → List Value} {H : Array Obj} {n c : Nat} {A : Option Addr} {l : List α} (h : Sm k f H H.size A n c l) {b : Nat} (hb : fpA A n b) : b < H.size := by
  obtain ⟨h0, o, e⟩ := hb
  rcases h.mem with h1 | ⟨b', o', e', hlt, _⟩
  · omega
  · rw [e] at e'; cases e'; exact hlt
theorem Sm.fp_flag {H : Array Obj} {B n c b : Nat} {A : Option Addr} {l : List IV} {t : TypeId} {cs : List Value} (h : Sm 2 ivc H B A n c l) (hb : fpA A n b) (hV : Vr H b t cs) (hc : cs.all flagless = true) : False := by
  obtain ⟨h0, o, e⟩ := hb
  rcases h.mem with h1 | ⟨b', o', e', hlt, hm⟩
  · omega
  · rw [e] at e'; cases e'
    have hl : 0 < l.length := by have := h.len; omega
    have h1 := hm 0 l[0] (List.getElem?_eq_getElem hl) 0 (.bool l[0].neg) rfl
    rw [hV.cell] at h1
    have h2 := List.all_eq_true.1 hc _ (List.mem_of_getElem? h1)
    cases h2

/-- a fact on data, and the blocks, beside those of words, that it looks at -/
structure DP where
  p : Array Obj → Prop
  fp : Nat → Prop
  lt : ∀ H k, p H → fp k → k < H.size
  st : ∀ H H', DE fp H H' → p H → p H'
/-- a block known whole -/
structure VB where
  b : Nat
  t : TypeId
  cs : List Value
structure Fr (w0 w : World) (L : List VB) (D : List DP) : Prop where
  ext : Ext w0 w
  vars : ∀ v ∈ L, w0.heap.size ≤ v.b ∧ Vr w.heap v.b v.t v.cs
  dist : L.Pairwise (fun x y => x.b ≠ y.b)
  data : ∀ d ∈ D, d.p w.heap
  apart : ∀ v ∈ L, ∀ d ∈ D, ¬ d.fp v.b
inductive InV : List VB → Nat → TypeId → List Value → Prop
  | head {L : List VB} {b : Nat} {t : TypeId} {cs : List Value} : InV (⟨b, t, cs⟩ :: L) b t cs
  | tail {x : VB} {L : List VB} {b : Nat} {t : TypeId} {cs : List Value} : InV L b t cs → InV (x :: L) b t cs
theorem InV.mem {L : List VB} {b : Nat} {t : TypeId} {cs : List Value} (h : InV L b t cs) : ⟨b, t, cs⟩ ∈ L := by
  induction h with
  | head => exact List.mem_cons_self ..
  | tail _ ih => exact List.mem_cons_of_mem _ ih
inductive SetV : List VB → Nat → TypeId → List Value → List Value → List VB → Prop
  | head {L : List VB} {b : Nat} {t : TypeId} {cs r : List Value} : SetV (⟨b, t, cs⟩ :: L) b t cs r (⟨b, t, r⟩ :: L)
  | tail {x : VB} {L L' : List VB} {b : Nat} {t : TypeId} {cs r : List Value} : SetV L b t cs r L' → SetV (x :: L) b t cs r (x :: L')
theorem SetV.inV {L L' : List VB} {b : Nat} {t : TypeId} {cs r : List Value} (h : SetV L b t cs r L') : InV L b t cs := by
  induction h with
  | head => exact .head
  | tail _ ih => exact .tail ih
theorem SetV.split {L L' : List VB} {b : Nat} {t : TypeId} {cs r : List Value} (h : SetV L b t cs r L') : ∃ pre post, L = pre ++ ⟨b, t, cs⟩ :: post ∧ L' = pre ++ ⟨b, t, r⟩ :: post := by
  induction h with
  | head => exact ⟨[], _, rfl, rfl⟩
  | @tail x L L' _ _ _ _ _ ih =>
    obtain ⟨pre, post, h1, h2⟩ := ih
    exact ⟨x :: pre, post, by rw [h1]; rfl, by rw [h2]; rfl⟩
theorem memH {d : DP} {D : List DP} : d ∈ d :: D := List.mem_cons_self ..
theorem memT {d x : DP} {D : List DP} (h : d ∈ D) : d ∈ x :: D := List.mem_cons_of_mem _ h
section
variable {w0 w w' : World} {L L' : List VB} {D D' : List DP} {b : Nat} {t : TypeId} {cs r : List Value}
theorem Fr.refl (w : World) : Fr w w [] [] := ⟨Ext.refl _, fun _ h => (by cases h), List.Pairwise.nil, fun _ h => (by cases h), fun _ h => (by cases h)⟩
theorem Fr.add (h : Fr w0 w L D) (d : DP) (hd : d.p w.heap) (ha : ∀ v ∈ L, ¬ d.fp v.b) : Fr w0 w L (d :: D) := ⟨h.ext, h.vars, h.dist, fun x hx => by
  rcases List.mem_cons.1 hx with rfl | hx
  · exact hd
  · exact h.data x hx, fun v hv x hx => by
  rcases List.mem_cons.1 hx with rfl | hx
  · exact ha v hv
  · exact h.apart v hv x hx⟩
theorem Fr.exts (h : Fr w0 w L D) (hE : Ext w w') : Fr w0 w' L D :=
  ⟨h.ext.trans hE, fun v hv => ⟨(h.vars v hv).1, (h.vars v hv).2.ext hE⟩, h.dist, fun d hd => d.st _ _ (DE.ext hE) (h.data d hd), h.apart⟩
/-- data in blocks that are not older than w -/
theorem Fr.addNew (h : Fr w0 w L D) (hE : Ext w w') (d : DP) (hd : d.p w'.heap) (hn : ∀ k, d.fp k → w.heap.size ≤ k) : Fr w0 w' L (d :: D) :=
  (h.exts hE).add d hd fun v hv hk => by have h1 := (h.vars v hv).2.lt; have h2 := hn _ hk; omega
theorem Fr.var (h : Fr w0 w L D) (hv : InV L b t cs) : Vr w.heap b t cs := (h.vars _ hv.mem).2
theorem Fr.lo (h : Fr w0 w L D) (hv : InV L b t cs) : w0.heap.size ≤ b := (h.vars _ hv.mem).1
theorem Fr.new (h : Fr w0 w L D) (hb : b = w.heap.size) (hV : Vr w'.heap b t cs) (hE : Ext w w') : Fr w0 w' (⟨b, t, cs⟩ :: L) D := by
  have h1 := h.exts hE
  refine ⟨h1.ext, fun v hv => ?_, List.pairwise_cons.2 ⟨fun v hv e => ?_, h.dist⟩, h1.data, fun v hv d hd => ?_⟩
  · rcases List.mem_cons.1 hv with rfl | hv
    · exact ⟨by rw [hb]; exact h.ext.size, hV⟩
    · exact h1.vars v hv
  · have := (h.vars v hv).2.lt
    simp only at e
    omega
  · rcases List.mem_cons.1 hv with rfl | hv
    · intro hk
      have := d.lt _ _ (h.data d hd) hk
      simp only at this
      omega
    · exact h.apart v hv d hd
theorem Fr.store (h : Fr w0 w L D) (hS : SetV L b t cs r L') (hc : cs.all noU64 = true) (hu : Upd b w w') (hV : Vr w'.heap b t r) : Fr w0 w' L' D := by
  have hb := h.lo hS.inV
  have hap := fun d hd => h.apart _ hS.inV.mem d hd
  refine ⟨h.ext.upd hu hb, ?_, ?_, fun d hd => d.st _ _ (DE.upd hu (h.var hS.inV) hc (hap d hd)) (h.data d hd), ?_⟩
  · intro v hv
    obtain ⟨pre, post, e1, e2⟩ := hS.split
    subst e1 e2
    have hdist := h.dist
    rw [List.pairwise_append] at hdist
    have hq : ∀ v, v ∈ pre ∨ v ∈ post → w0.heap.size ≤ v.b ∧ Vr w'.heap v.b v.t v.cs := by
      intro v hv
      have hm : v ∈ pre ++ (⟨b, t, cs⟩ : VB) :: post := by
        rcases hv with hv | hv
        · exact List.mem_append_left _ hv
        · exact List.mem_append_right _ (List.mem_cons_of_mem _ hv)
      have hne : v.b ≠ b := by
        rcases hv with hv | hv
        · exact hdist.2.2 v hv _ (List.mem_cons_self ..)
        · exact fun e => (List.pairwise_cons.1 hdist.2.1).1 v hv e.symm
      exact ⟨(h.vars v hm).1, (h.vars v hm).2.upd hu hne⟩
    rcases List.mem_append.1 hv with hv | hv
    · exact hq v (.inl hv)
    · rcases List.mem_cons.1 hv with rfl | hv
      · exact ⟨hb, hV⟩
      · exact hq v (.inr hv)
  · obtain ⟨pre, post, e1, e2⟩ := hS.split
    subst e1 e2
    have hdist := h.dist
    rw [List.pairwise_append, List.pairwise_cons] at hdist ⊢
    refine ⟨hdist.1, ⟨fun v hv => hdist.2.1.1 v hv, hdist.2.1.2⟩, fun x hx y hy => ?_⟩
    rcases List.mem_cons.1 hy with rfl | hy
    · exact hdist.2.2 x hx ⟨b, t, cs⟩ (List.mem_cons_self ..)
    · exact hdist.2.2 x hx y (List.mem_cons_of_mem _ hy)
  · intro v hv d hd
    obtain ⟨pre, post, e1, e2⟩ := hS.split
    subst e1 e2
    rcases List.mem_append.1 hv with hv | hv
    · exact h.apart v (List.mem_append_left _ hv) d hd
    · rcases List.mem_cons.1 hv with rfl | hv
      · exact hap d hd
      · exact h.apart v (List.mem_append_right _ (List.mem_cons_of_mem _ hv)) d hd
theorem Fr.weak (h : Fr w0 w L' D') (hL : L.Sublist L') (hD : ∀ d ∈ D, d ∈ D') : Fr w0 w L D := ⟨h.ext, fun v hv => h.vars v (hL.subset hv), h.dist.sublist hL, fun d hd => h.data d (hD d hd), fun v hv d hd => h.apart v (hL.subset hv) d (hD d hd)⟩
theorem allH {x : DP} {D D' : List DP} (hx : x ∈ D') (h : ∀ d ∈ D, d ∈ D') : ∀ d ∈ x :: D, d ∈ D' := fun d hd => by
  rcases List.mem_cons.1 hd with rfl | hd
  · exact hx
  · exact h d hd
theorem allN {D' : List DP} : ∀ d ∈ ([] : List DP), d ∈ D' := fun _ h => (by cases h)
theorem allR {D : List DP} : ∀ d ∈ D, d ∈ D := fun _ h => h
theorem allT {x : DP} {D D' : List DP} (h : ∀ d ∈ D, d ∈ D') : ∀ d ∈ D, d ∈ x :: D' := fun d hd => List.mem_cons_of_mem _ (h d hd)
theorem Fr.get (h : Fr w0 w L D) {d : DP} (hd : d ∈ D) : d.p w.heap := h.data d hd
end

/-! ### Steps -/
section
variable {P : Program} {N : Nat} {Q : Exit → Act → World → Prop} {σ : Store} {w0 w : World} {L : List VB} {D : List DP} {ops : Array Oper} {d : Nat} {t : TypeId} {pos : String} {af : Array Edge} {rest : List Oper} {l : List Oper}
theorem T.regionFr (hF : Fr w0 w L D) (id : Nat) (f : Nat) (t : Rt) (hm : P.follows .mixedOrders = true) (hB : treeB l.toArray f t = true)
    (h : ∀ w1 : World, Fr w0 w1 L D → TF P N l Q (fun w' => Fr w0 w' L D) f t σ w1) : T P N (.region id l.toArray true) Q σ w :=
  T.regionF _ f t hm hB (hF.exts (ext_drewN w 1)) (h _ (hF.exts (ext_drewN w 1)))
theorem TL.nilFr (hF : Fr w0 w L D) (h : ∀ w1 : World, Fr w0 w1 L D → G N .normal Q σ w1) : TL P N .quiet ops Q [] σ w := TL.nilQ fun n => h _ (hF.exts (ext_drewN w n))
theorem TL.boxFr (hF : Fr w0 w L D) {x : Operand} {ty : TypeId} {v : Value} (hx : look σ x = some v) (hd : Nat.blt d N = true)
    (K : ∀ w' b, Fr w0 w' (⟨b, ty, v.cells.toList⟩ :: L) D → TL P N .seq ops Q rest ((d, .pointer (some ⟨b, 0, none⟩)) :: σ) w') :
    TL P N .seq ops Q (⟨some d, .box ty x, t, pos, af, none⟩ :: rest) σ w :=
  TL.box hx hd fun w' b hb hV hE _ => K w' b (hF.new hb hV hE)
theorem TL.boxAFr (hF : Fr w0 w L D) {x : Operand} {ty : TypeId} {cs : List Value} (hx : look σ x = some (.agg cs.toArray)) (hd : Nat.blt d N = true)
    (K : ∀ w' b, Fr w0 w' (⟨b, ty, cs⟩ :: L) D → TL P N .seq ops Q rest ((d, .pointer (some ⟨b, 0, none⟩)) :: σ) w') :
    TL P N .seq ops Q (⟨some d, .box ty x, t, pos, af, none⟩ :: rest) σ w :=
  TL.boxA hx hd fun w' b hb hV hE _ => K w' b (hF.new hb hV hE)
theorem TL.allocFr (hF : Fr w0 w L D) {ty : TypeId} {z : Value} {sz b1 : Nat} [hS : USize P ty z sz b1] {cs : List Value} (hz : z.cells.toList = cs) (hd : Nat.blt d N = true)
    (K : ∀ w' b, Fr w0 w' (⟨b, ty, cs⟩ :: L) D → TL P N .seq ops Q rest ((d, .pointer (some ⟨b, 0, none⟩)) :: σ) w') :
    TL P N .seq ops Q (⟨some d, .alloc ty, t, pos, af, none⟩ :: rest) σ w :=
  TL.alloc hd fun w' b hb hV hE _ => K w' b (hF.new hb (by rw [← hz]; exact hV) hE)
theorem TL.storeAFr (hF : Fr w0 w L D) {x y : Operand} {ty e : TypeId} {z : Value} {sz b1 : Nat} [hS : USize P ty z sz b1] {b o : Nat} {cs r vs : List Value} {L' : List VB} (hx : look σ x = some (.pointer (some ⟨b, o, none⟩))) (hy : look σ y = some (.agg vs.toArray))
    (hsz : Nat.beq vs.length sz = true) (h1 : vs.all (·.oneCell') = true) (h : SetV L b e cs r L' ∧ putO cs o vs = some r) (hc : cs.all noU64 = true)
    (K : ∀ w', Fr w0 w' L' D → TL P N .seq ops Q rest σ w') : TL P N .seq ops Q (⟨none, .store ty x y, t, pos, af, none⟩ :: rest) σ w :=
  TL.storeVA hx hy hsz h1 (hF.var h.1.inV) h.2 fun w' h1 h2 => K w' (hF.store h.1 hc h2 h1)
theorem TL.storeFr (hF : Fr w0 w L D) {x y : Operand} {ty e : TypeId} {z : Value} {b1 : Nat} [hS : USize P ty z 1 b1] {b o : Nat} {cs r : List Value} {v : Value} {L' : List VB} (hx : look σ x = some (.pointer (some ⟨b, o, none⟩))) (hy : look σ y = some v) (hvs : v.cells.toList = [v]) (h1 : v.oneCell' = true) (h : SetV L b e cs r L' ∧ putO cs o [v] = some r) (hc : cs.all noU64 = true)
    (K : ∀ w', Fr w0 w' L' D → TL P N .seq ops Q rest σ w') : TL P N .seq ops Q (⟨none, .store ty x y, t, pos, af, none⟩ :: rest) σ w :=
  TL.storeV hx hy hvs h1 (hF.var h.1.inV) h.2 fun w' h1 h2 => K w' (hF.store h.1 hc h2 h1)
end
section
variable {P : Program} {σ : Store} {d : Option Tmp} {t : TypeId} {pos : String} {af : Array Edge} {gd : Option (Nat × Bool)} {w0 w : World} {L : List VB} {D : List DP}
theorem ev_loadFr (hF : Fr w0 w L D) {x : Operand} {ty e : TypeId} [hO : UOne P ty] {b o : Nat} {cs : List Value} {v : Value} (hx : look σ x = some (.pointer (some ⟨b, o, none⟩))) (h : InV L b e cs ∧ nthV cs o = some v) : Ev P σ w.heap ⟨d, .load ty x, t, pos, af, gd⟩ v := ev_loadV hx (hF.var h.1) h.2
theorem ev_loadAFr (hF : Fr w0 w L D) {x : Operand} {ty e : TypeId} [hA : UAgg P ty] {z : Value} {sz b1 : Nat} [hS : USize P ty z sz b1] {b o : Nat} {cs cs' : List Value} (hx : look σ x = some (.pointer (some ⟨b, o, none⟩))) (h : InV L b e cs ∧ subV cs o sz = some cs') :
    Ev P σ w.heap ⟨d, .load ty x, t, pos, af, gd⟩ (.agg cs'.toArray) := ev_loadVA hx (hF.var h.1) h.2
end
/-! ### Kinds of operations and judgements, for quick choices -/
section
variable {P : Program} {N : Nat} {q : Md} {Q : Exit → Act → World → Prop} {S : World → Prop} {σ : Store} {H : Array Obj} {w : World} {ops : Array Oper} {d : Option Tmp} {t : TypeId} {pos : String} {af : Array Edge} {gd : Option (Nat × Bool)} {rest l : List Oper} {v : Value} {f : Nat}
theorem Ev.isBin {op : BinOp} {tx ty : TypeId} {x y : Operand} (h : Ev P σ H ⟨d, .binOp op tx x y ty, t, pos, af, gd⟩ v) : Ev P σ H ⟨d, .binOp op tx x y ty, t, pos, af, gd⟩ v := h
theorem Ev.isLoad {ty : TypeId} {x : Operand} (h : Ev P σ H ⟨d, .load ty x, t, pos, af, gd⟩ v) : Ev P σ H ⟨d, .load ty x, t, pos, af, gd⟩ v := h
theorem Ev.isSlice {ty : TypeId} {x : Operand} {a b c : Option Operand} (h : Ev P σ H ⟨d, .slice ty x a b c, t, pos, af, gd⟩ v) : Ev P σ H ⟨d, .slice ty x a b c, t, pos, af, gd⟩ v := h
theorem TL.isG {op : Op} {g : Nat × Bool} (h : TL P N q ops Q (⟨d, op, t, pos, af, some g⟩ :: rest) σ w) : TL P N q ops Q (⟨d, op, t, pos, af, some g⟩ :: rest) σ w := h
theorem TL.isCall {f : FuncId} {xs : Array Operand} {tys : Array TypeId} (h : TL P N q ops Q (⟨d, .call { callee := .value (.func f), args := xs, argTypes := tys }, t, pos, af, none⟩ :: rest) σ w) : TL P N q ops Q (⟨d, .call { callee := .value (.func f), args := xs, argTypes := tys }, t, pos, af, none⟩ :: rest) σ w := h
theorem TL.isOp {o : Oper} (h : TL P N q ops Q (o :: rest) σ w) : TL P N q ops Q (o :: rest) σ w := h
theorem TL.isBin {op : BinOp} {tx ty : TypeId} {x y : Operand} (h : TL P N q ops Q (⟨d, .binOp op tx x y ty, t, pos, af, gd⟩ :: rest) σ w) : TL P N q ops Q (⟨d, .binOp op tx x y ty, t, pos, af, gd⟩ :: rest) σ w := h
theorem T.is {c : Code} (h : T P N c Q σ w) : T P N c Q σ w := h
theorem G.is {e : Exit} (h : G N e Q σ w) : G N e Q σ w := h
/-- a step of a drawn region by a tree, its operation at hand -/
def TFo (P : Program) (N : Nat) (l : List Oper) (Q : Exit → Act → World → Prop) (S : World → Prop) (f : Nat) (t : Rt) (o : Oper) (σ : Store) (w : World) : Prop :=
  ∀ a, Rep N σ a → ∃ v, YieldsIf P l.toArray S o v a ∧ wpTree P l.toArray (Only Q) S f t (a.put o.dst v) w
theorem TF.pick {i : Nat} {tr : Rt} {o : Oper} (hi : pick1 l i = some o) (h : TFo P N l Q S f tr o σ w) : TF P N l Q S f (.s i tr) σ w := by
  unfold TF
  intro a ha
  obtain ⟨v, h1, h2⟩ := h a ha
  exact ⟨o, v, pick_at hi, h1, h2⟩
theorem TFo.ev {tr : Rt} {op : Op} {ty : TypeId} {d : Nat} (h : ∀ w', S w' → Ev P σ w'.heap ⟨some d, op, ty, pos, af, none⟩ v) (hd : Nat.blt d N = true) (k : TF P N l Q S f tr ((d, v) :: σ) w) : TFo P N l Q S f tr ⟨some d, op, ty, pos, af, none⟩ σ w := by
  unfold TF at k
  exact fun a ha => ⟨v, .inl ⟨by simp [Region.wanted], fun w' hw' => by have := h w' hw'; unfold Ev at this; exact this _ w' ha.agree rfl⟩, k _ (ha.put hd v)⟩
theorem TFo.evg {tr : Rt} {op : Op} {ty : TypeId} {d : Nat} {j s : Nat} {want b : Bool} (hj : (pick1 l j).bind (·.dst) = some s) (hb : look1 σ s = some (.bool b)) (heq : (b == want) = true)
    (h : ∀ w', S w' → Ev P σ w'.heap ⟨some d, op, ty, pos, af, some (j, want)⟩ v) (hd : Nat.blt d N = true) (k : TF P N l Q S f tr ((d, v) :: σ) w) : TFo P N l Q S f tr ⟨some d, op, ty, pos, af, some (j, want)⟩ σ w := by
  unfold TF at k
  refine fun a ha => ⟨v, .inl ⟨?_, fun w' hw' => by have := h w' hw'; unfold Ev at this; exact this _ w' ha.agree rfl⟩, k _ (ha.put hd v)⟩
  have hj' : (l.toArray[j]?).bind (·.dst) = some s := by rw [List.getElem?_toArray, ← pick1_eq]; exact hj
  simp only [Region.wanted, yielded_of ha hj' hb]
  cases b <;> cases want <;> simp_all
theorem TFo.skip {tr : Rt} {op : Op} {ty : TypeId} {d : Nat} {j s : Nat} {want b : Bool} (hj : (pick1 l j).bind (·.dst) = some s) (hb : look1 σ s = some (.bool b)) (heq : (b == want) = false)
    (hd : Nat.blt d N = true) (k : TF P N l Q S f tr ((d, undef) :: σ) w) : TFo P N l Q S f tr ⟨some d, op, ty, pos, af, some (j, want)⟩ σ w := by
  unfold TF at k
  refine fun a ha => ⟨undef, .inr ⟨?_, rfl⟩, k _ (ha.put hd undef)⟩
  have hj' : (l.toArray[j]?).bind (·.dst) = some s := by rw [List.getElem?_toArray, ← pick1_eq]; exact hj
  simp only [Region.wanted, yielded_of ha hj' hb]
  cases b <;> cases want <;> simp_all
theorem TFo.skipU {tr : Rt} {op : Op} {ty : TypeId} {d : Nat} {j s : Nat} {want : Bool} (hj : (pick1 l j).bind (·.dst) = some s) (hb : look1 σ s = some undef)
    (hd : Nat.blt d N = true) (k : TF P N l Q S f tr ((d, undef) :: σ) w) : TFo P N l Q S f tr ⟨some d, op, ty, pos, af, some (j, want)⟩ σ w := by
  unfold TF at k
  refine fun a ha => ⟨undef, .inr ⟨?_, rfl⟩, k _ (ha.put hd undef)⟩
  have hj' : (l.toArray[j]?).bind (·.dst) = some s := by rw [List.getElem?_toArray, ← pick1_eq]; exact hj
  have hy : yielded l.toArray a.tmps j = none := by
    have h := ha.get s _ hb
    unfold yielded
    rw [hj']
    simp only [Option.bind_some]
    rw [Array.getD_eq_getD_getElem?] at h
    cases hx : a.tmps[s]? with
    | none => rfl
    | some v => rw [hx] at h; simp at h; subst h; rfl
  simp only [Region.wanted, hy]; rfl
theorem TFo.is {tr : Rt} {o : Oper} (h : TFo P N l Q S f tr o σ w) : TFo P N l Q S f tr o σ w := h
theorem TF.is {tr : Rt} (h : TF P N l Q S f tr σ w) : TF P N l Q S f tr σ w := h
theorem ev_cmpG {op : BinOp} {tx ty : TypeId} {x y : Operand} {k : IntKind} {m n : Int} {p : Prop} [Decidable p] (hx : look σ x = some (.int k m)) (hy : look σ y = some (.int k n)) (hp : cmpP op m n = some p) : Ev P σ H ⟨d, .binOp op tx x y ty, t, pos, af, gd⟩ (.bool (decide p)) := by
  unfold cmpP at hp
  split at hp <;> first | cases hp; done | skip
  all_goals (cases hp)
  · exact ev_lss hx hy (by congr)
  · exact ev_leq hx hy (by congr)
  · exact ev_gtr hx hy (by congr)
  · exact ev_geq hx hy (by congr)
  · exact ev_eql hx hy (by congr)
  · exact ev_neq hx hy (by by_cases h : m = n <;> simp [h])
/-- a comparison in a drawn region: both ways -/
theorem TFo.cmpG {tr : Rt} {op : BinOp} {tx ty ty' : TypeId} {x y : Operand} {k : IntKind} {m n : Int} {p : Prop} {d : Nat} (hx : look σ x = some (.int k m)) (hy : look σ y = some (.int k n)) (hp : cmpP op m n = some p) (hd : Nat.blt d N = true)
    (k1 : p → TF P N l Q S f tr ((d, .bool true) :: σ) w) (k0 : ¬ p → TF P N l Q S f tr ((d, .bool false) :: σ) w) : TFo P N l Q S f tr ⟨some d, .binOp op tx x y ty, ty', pos, af, none⟩ σ w := by
  have hdec := Classical.propDecidable p
  have he := fun H => ev_cmpG (P := P) (H := H) (d := some d) (t := ty') (pos := pos) (af := af) (gd := none) (tx := tx) (ty := ty) hx hy hp
  by_cases h : p
  · exact TFo.ev (fun w' _ => by have := he w'.heap; rw [decide_eq_true h] at this; exact this) hd (k1 h)
  · exact TFo.ev (fun w' _ => by have := he w'.heap; rw [decide_eq_false h] at this; exact this) hd (k0 h)
theorem TFo.cmpGg {tr : Rt} {op : BinOp} {tx ty ty' : TypeId} {x y : Operand} {k : IntKind} {m n : Int} {p : Prop} {d : Nat} {j s : Nat} {want b : Bool} (hj : (pick1 l j).bind (·.dst) = some s) (hb : look1 σ s = some (.bool b)) (heq : (b == want) = true) (hx : look σ x = some (.int k m)) (hy : look σ y = some (.int k n)) (hp : cmpP op m n = some p) (hd : Nat.blt d N = true)
    (k1 : p → TF P N l Q S f tr ((d, .bool true) :: σ) w) (k0 : ¬ p → TF P N l Q S f tr ((d, .bool false) :: σ) w) : TFo P N l Q S f tr ⟨some d, .binOp op tx x y ty, ty', pos, af, some (j, want)⟩ σ w := by
  have hdec := Classical.propDecidable p
  have he := fun H => ev_cmpG (P := P) (H := H) (d := some d) (t := ty') (pos := pos) (af := af) (gd := some (j, want)) (tx := tx) (ty := ty) hx hy hp
  by_cases h : p
  · exact TFo.evg hj hb heq (fun w' _ => by have := he w'.heap; rw [decide_eq_true h] at this; exact this) hd (k1 h)
  · exact TFo.evg hj hb heq (fun w' _ => by have := he w'.heap; rw [decide_eq_false h] at this; exact this) hd (k0 h)
end
attribute [irreducible] TFo
end Go.Eng
namespace Go.Eng
open Go Go.RowKit

/-- what stood stands, but for the blocks of S -/
structure Exs (S : Nat → Prop) (w w' : World) : Prop where
  os : w'.os = w.os
  tape : w'.tape = w.tape
  output : w'.output = w.output
  size : w.heap.size ≤ w'.heap.size
  block : ∀ k, k < w.heap.size → ¬ S k → w'.heap[k]? = w.heap[k]?
theorem Exs.refl (S : Nat → Prop) (w : World) : Exs S w w := ⟨rfl, rfl, rfl, Nat.le_refl _, fun _ _ _ => rfl⟩
theorem Exs.of {S : Nat → Prop} {w w' : World} (h : Ext w w') : Exs S w w' := ⟨h.os, h.tape, h.output, h.size, fun k hk _ => h.block k hk⟩
theorem Exs.trans {S : Nat → Prop} {a b c : World} (h : Exs S a b) (k : Exs S b c) : Exs S a c :=
  ⟨k.os.trans h.os, k.tape.trans h.tape, k.output.trans h.output, Nat.le_trans h.size k.size, fun i hi hs => (k.block i (Nat.lt_of_lt_of_le hi h.size) hs).trans (h.block i hi hs)⟩
theorem Exs.mono {S S' : Nat → Prop} {a b : World} (h : Exs S a b) (hs : ∀ k, k < a.heap.size → S k → S' k) : Exs S' a b := ⟨h.os, h.tape, h.output, h.size, fun k hk hn => h.block k hk fun e => hn (hs k hk e)⟩
theorem Exs.ext {S : Nat → Prop} {a b : World} (h : Exs S a b) (hs : ∀ k, k < a.heap.size → ¬ S k) : Ext a b := ⟨h.os, h.tape, h.output, h.size, fun k hk => h.block k hk (hs k hk)⟩
theorem Exs.ext0 {a b : World} (h : Exs (fun _ => False) a b) : Ext a b := h.ext fun _ _ h => h
/-- .. seen from w0, of which the blocks of S may be written, and all that came later -/
theorem Exs.then {S S' : Nat → Prop} {w0 a b : World} (h : Exs S w0 a) (k : Exs S' a b) (hs : ∀ i, i < w0.heap.size → S' i → S i) : Exs S w0 b :=
  ⟨k.os.trans h.os, k.tape.trans h.tape, k.output.trans h.output, Nat.le_trans h.size k.size, fun i hi hn => (k.block i (Nat.lt_of_lt_of_le hi h.size) fun e => hn (hs i hi e)).trans (h.block i hi hn)⟩
theorem Upd.exs {g : Nat} {w w' : World} (h : Upd g w w') : Exs (fun k => k = g) w w' := ⟨h.os, h.tape, h.output, Nat.le_of_eq h.size.symm, fun k _ hn => h.block k hn⟩
theorem Vr.exs {S : Nat → Prop} {w w' : World} {b : Nat} {t : TypeId} {cs : List Value} (hE : Exs S w w') (hS : ¬ S b) (h : Vr w.heap b t cs) : Vr w'.heap b t cs := (hE.block b h.lt hS).trans h
theorem Sl.exs {α : Type} {f : α → Value} {S : Nat → Prop} {w w' : World} {B n c : Nat} {A : Option Addr} {l : List α} (hE : Exs S w w') (hS : ∀ k, fpA A n k → ¬ S k) (h : Sl f w.heap B A n c l) : Sl f w'.heap B A n c l := by
  refine ⟨h.len, h.cap, ?_⟩
  rcases h.mem with h0 | ⟨b, o, e, hlt, hm⟩
  · exact .inl h0
  · rcases Nat.eq_zero_or_pos n with h0 | h0
    · exact .inl h0
    · have hl : 0 < l.length := by have := h.len; omega
      have hb := hcell_lt (hm 0 l[0] (List.getElem?_eq_getElem hl))
      exact .inr ⟨b, o, e, hlt, fun j x hx => hcell_eq (hE.block b hb (hS b ⟨h0, o, e⟩)) (hm j x hx)⟩
/-- the blocks of F are as they were -/
structure DEk (F : Nat → Prop) (H H' : Array Obj) : Prop where
  size : H.size ≤ H'.size
  block : ∀ k, k < H.size → F k → H'[k]? = H[k]?
/-- a fact on data, and the blocks that it looks at -/
structure DK where
  p : Array Obj → Prop
  fp : Nat → Prop
  lt : ∀ H k, p H → fp k → k < H.size
  st : ∀ H H', DEk fp H H' → p H → p H'
structure Fk (S : Nat → Prop) (w0 w : World) (L : List VB) (D : List DK) : Prop where
  exs : Exs S w0 w
  vars : ∀ v ∈ L, (w0.heap.size ≤ v.b ∨ S v.b) ∧ Vr w.heap v.b v.t v.cs
  dist : L.Pairwise (fun x y => x.b ≠ y.b)
  data : ∀ d ∈ D, d.p w.heap
  apart : ∀ v ∈ L, ∀ d ∈ D, ¬ d.fp v.b
  dd : D.Pairwise (fun d e => ∀ k, d.fp k → ¬ e.fp k)
  own : ∀ d ∈ D, ∀ k, d.fp k → w0.heap.size ≤ k ∨ S k
section
variable {S : Nat → Prop} {w0 w w' : World} {L L' : List VB} {D D' : List DK} {b : Nat} {t : TypeId} {cs r : List Value}
theorem Fk.refl (S : Nat → Prop) (w : World) : Fk S w w [] [] := ⟨Exs.refl _ _, fun _ h => (by cases h), List.Pairwise.nil, fun _ h => (by cases h), fun _ h => (by cases h), List.Pairwise.nil, fun _ h => (by cases h)⟩
theorem Fk.ext (h : Fk (fun _ => False) w0 w L D) : Ext w0 w := h.exs.ext0
theorem Fk.get (h : Fk S w0 w L D) {d : DK} (hd : d ∈ D) : d.p w.heap := h.data d hd
theorem Fk.exts (h : Fk S w0 w L D) (hE : Ext w w') : Fk S w0 w' L D :=
  ⟨h.exs.trans (.of hE), fun v hv => ⟨(h.vars v hv).1, (h.vars v hv).2.ext hE⟩, h.dist, fun d hd => d.st _ _ ⟨hE.size, fun k hk _ => hE.block k hk⟩ (h.data d hd), h.apart, h.dd, h.own⟩
/-- a fact without blocks of its own -/
theorem Fk.add0 (h : Fk S w0 w L D) (d : DK) (hd : d.p w.heap) (hn : ∀ k, ¬ d.fp k) : Fk S w0 w L (d :: D) :=
  ⟨h.exs, h.vars, h.dist, fun x hx => (List.mem_cons.1 hx).elim (fun e => by rw [e]; exact hd) (h.data x), fun v hv x hx => (List.mem_cons.1 hx).elim (fun e => by rw [e]; exact hn _) (h.apart v hv x), List.pairwise_cons.2 ⟨fun e _ k hk => absurd hk (hn k), h.dd⟩, fun x hx k hk => (List.mem_cons.1 hx).elim (fun e => by rw [e] at hk; exact absurd hk (hn k)) (fun hx => h.own x hx k hk)⟩
/-- data in blocks that are not older than w -/
theorem Fk.addNew (h : Fk S w0 w L D) (hE : Ext w w') (d : DK) (hd : d.p w'.heap) (hn : ∀ k, d.fp k → w.heap.size ≤ k) : Fk S w0 w' L (d :: D) := by
  have h1 := h.exts hE
  refine ⟨h1.exs, h1.vars, h1.dist, fun x hx => ?_, fun v hv x hx => ?_, List.pairwise_cons.2 ⟨fun e he k hk hek => ?_, h1.dd⟩, fun x hx k hk => ?_⟩
  · rcases List.mem_cons.1 hx with rfl | hx
    · exact hd
    · exact h1.data x hx
  · rcases List.mem_cons.1 hx with rfl | hx
    · intro hk; have q1 := (h.vars v hv).2.lt; have q2 := hn _ hk; omega
    · exact h1.apart v hv x hx
  · have q1 := e.lt _ _ (h.data e he) hek; have q2 := hn _ hk; omega
  · rcases List.mem_cons.1 hx with rfl | hx
    · exact .inl (Nat.le_trans h.exs.size (hn _ hk))
    · exact h1.own x hx k hk
theorem Fk.var (h : Fk S w0 w L D) (hv : InV L b t cs) : Vr w.heap b t cs := (h.vars _ hv.mem).2
theorem Fk.new (h : Fk S w0 w L D) (hb : b = w.heap.size) (hV : Vr w'.heap b t cs) (hE : Ext w w') : Fk S w0 w' (⟨b, t, cs⟩ :: L) D := by
  have h1 := h.exts hE
  refine ⟨h1.exs, fun v hv => ?_, List.pairwise_cons.2 ⟨fun v hv e => ?_, h.dist⟩, h1.data, fun v hv d hd => ?_, h1.dd, h1.own⟩
  · rcases List.mem_cons.1 hv with rfl | hv
    · exact ⟨.inl (by rw [hb]; exact h.exs.size), hV⟩
    · exact h1.vars v hv
  · have := (h.vars v hv).2.lt
    simp only at e
    omega
  · rcases List.mem_cons.1 hv with rfl | hv
    · intro hk
      have := d.lt _ _ (h.data d hd) hk
      simp only at this
      omega
    · exact h.apart v hv d hd
/-- a block known whole is written -/
theorem Fk.store (h : Fk S w0 w L D) (hS : SetV L b t cs r L') (hu : Upd b w w') (hV : Vr w'.heap b t r) : Fk S w0 w' L' D := by
  have hb := (h.vars _ hS.inV.mem).1
  have hap := fun d hd => h.apart _ hS.inV.mem d hd
  refine ⟨h.exs.then hu.exs fun i hi e => ?_, ?_, ?_, fun d hd => d.st _ _ ⟨Nat.le_of_eq hu.size.symm, fun k _ hk => hu.block k fun e => hap d hd (e ▸ hk)⟩ (h.data d hd), ?_, h.dd, h.own⟩
  · subst e
    rcases hb with hb | hb
    · simp only at hb; omega
    · exact hb
  · intro v hv
    obtain ⟨pre, post, e1, e2⟩ := hS.split
    subst e1 e2
    have hdist := h.dist
    rw [List.pairwise_append] at hdist
    have hq : ∀ v, v ∈ pre ∨ v ∈ post → (w0.heap.size ≤ v.b ∨ S v.b) ∧ Vr w'.heap v.b v.t v.cs := by
      intro v hv
      have hm : v ∈ pre ++ (⟨b, t, cs⟩ : VB) :: post := by
        rcases hv with hv | hv
        · exact List.mem_append_left _ hv
        · exact List.mem_append_right _ (List.mem_cons_of_mem _ hv)
      have hne : v.b ≠ b := by
        rcases hv with hv | hv
        · exact hdist.2.2 v hv _ (List.mem_cons_self ..)
        · exact fun e => (List.pairwise_cons.1 hdist.2.1).1 v hv e.symm
      exact ⟨(h.vars v hm).1, (h.vars v hm).2.upd hu hne⟩
    rcases List.mem_append.1 hv with hv | hv
    · exact hq v (.inl hv)
    · rcases List.mem_cons.1 hv with rfl | hv
      · exact ⟨hb, hV⟩
      · exact hq v (.inr hv)
  · obtain ⟨pre, post, e1, e2⟩ := hS.split
    subst e1 e2
    have hdist := h.dist
    rw [List.pairwise_append, List.pairwise_cons] at hdist ⊢
    refine ⟨hdist.1, ⟨fun v hv => hdist.2.1.1 v hv, hdist.2.1.2⟩, fun x hx y hy => ?_⟩
    rcases List.mem_cons.1 hy with rfl | hy
    · exact hdist.2.2 x hx ⟨b, t, cs⟩ (List.mem_cons_self ..)
    · exact hdist.2.2 x hx y (List.mem_cons_of_mem _ hy)
  · intro v hv d hd
    obtain ⟨pre, post, e1, e2⟩ := hS.split
    subst e1 e2
    rcases List.mem_append.1 hv with hv | hv
    · exact h.apart v (List.mem_append_left _ hv) d hd
    · rcases List.mem_cons.1 hv with rfl | hv
      · exact hap d hd
      · exact h.apart v (List.mem_append_right _ (List.mem_cons_of_mem _ hv)) d hd
theorem Fk.weak (h : Fk S w0 w L' D') (hL : L.Sublist L') (hD : D.Sublist D') : Fk S w0 w L D :=
  ⟨h.exs, fun v hv => h.vars v (hL.subset hv), h.dist.sublist hL, fun d hd => h.data d (hD.subset hd), fun v hv d hd => h.apart v (hL.subset hv) d (hD.subset hd), h.dd.sublist hD, fun d hd => h.own d (hD.subset hd)⟩
inductive SetD : List DK → DK → DK → List DK → Prop
  | head {D : List DK} {d e : DK} : SetD (d :: D) d e (e :: D)
  | tail {x d e : DK} {D D' : List DK} : SetD D d e D' → SetD (x :: D) d e (x :: D')
theorem SetD.mem {D D' : List DK} {d e : DK} (h : SetD D d e D') : d ∈ D := by
  induction h with
  | head => exact List.mem_cons_self ..
  | tail _ ih => exact List.mem_cons_of_mem _ ih
theorem SetD.split {D D' : List DK} {d e : DK} (h : SetD D d e D') : ∃ pre post, D = pre ++ d :: post ∧ D' = pre ++ e :: post := by
  induction h with
  | head => exact ⟨[], _, rfl, rfl⟩
  | @tail x d e D D' _ ih =>
    obtain ⟨pre, post, h1, h2⟩ := ih
    exact ⟨x :: pre, post, by rw [h1]; rfl, by rw [h2]; rfl⟩
/-- the blocks of one fact are written: all others stand -/
theorem Fk.write (h : Fk S w0 w L D) {d e : DK} (hS : SetD D d e D') (hE : Exs d.fp w w') (he : e.p w'.heap) (hfp : ∀ k, e.fp k → d.fp k ∨ w.heap.size ≤ k) : Fk S w0 w' L D' := by
  have hd := hS.mem
  have hst : ∀ x ∈ D, (∀ k, x.fp k → ¬ d.fp k) → x.p w'.heap := fun x hx hap => x.st _ _ ⟨hE.size, fun k hk hf => hE.block k hk (hap k hf)⟩ (h.data x hx)
  obtain ⟨pre, post, e1, e2⟩ := hS.split
  subst e1 e2
  have hdd := h.dd
  rw [List.pairwise_append, List.pairwise_cons] at hdd
  have hot : ∀ x, x ∈ pre ∨ x ∈ post → x ∈ pre ++ d :: post ∧ ∀ k, x.fp k → ¬ d.fp k := fun x hx => by
    rcases hx with hx | hx
    · exact ⟨List.mem_append_left _ hx, fun k hk => hdd.2.2 x hx d (List.mem_cons_self ..) k hk⟩
    · exact ⟨List.mem_append_right _ (List.mem_cons_of_mem _ hx), fun k hk hk' => hdd.2.1.1 x hx k hk' hk⟩
  have hne : ∀ x, x ∈ pre ∨ x ∈ post → ∀ k, x.fp k → ¬ e.fp k := fun x hx k hk hk' => by
    rcases hfp k hk' with h1 | h1
    · exact (hot x hx).2 k hk h1
    · have := x.lt _ _ (h.data x (hot x hx).1) hk; omega
  refine ⟨h.exs.then hE fun i hi hf => (h.own d hd i hf).resolve_left (by omega), fun v hv => ⟨(h.vars v hv).1, (h.vars v hv).2.exs hE (h.apart v hv d hd)⟩, h.dist, fun x hx => ?_, fun v hv x hx => ?_, ?_, fun x hx k hk => ?_⟩
  · rcases List.mem_append.1 hx with hx | hx
    · exact hst x (hot x (.inl hx)).1 (hot x (.inl hx)).2
    · rcases List.mem_cons.1 hx with rfl | hx
      · exact he
      · exact hst x (hot x (.inr hx)).1 (hot x (.inr hx)).2
  · rcases List.mem_append.1 hx with hx | hx
    · exact h.apart v hv x (hot x (.inl hx)).1
    · rcases List.mem_cons.1 hx with rfl | hx
      · intro hk
        rcases hfp _ hk with h1 | h1
        · exact h.apart v hv d hd h1
        · have := (h.vars v hv).2.lt; omega
      · exact h.apart v hv x (hot x (.inr hx)).1
  · rw [List.pairwise_append, List.pairwise_cons]
    refine ⟨hdd.1, ⟨fun x hx k hk hk' => hne x (.inr hx) k hk' hk, hdd.2.1.2⟩, fun x hx y hy k hk => ?_⟩
    rcases List.mem_cons.1 hy with rfl | hy
    · exact hne x (.inl hx) k hk
    · exact hdd.2.2 x hx y (List.mem_cons_of_mem _ hy) k hk
  · rcases List.mem_append.1 hx with hx | hx
    · exact h.own x (hot x (.inl hx)).1 k hk
    · rcases List.mem_cons.1 hx with rfl | hx
      · rcases hfp k hk with h1 | h1
        · exact h.own d hd k h1
        · exact .inl (Nat.le_trans h.exs.size h1)
      · exact h.own x (hot x (.inr hx)).1 k hk
/-- the facts D1 are given up: their blocks may be written -/
theorem Fk.drop (h : Fk S w0 w L D) (D1 D2 : List DK) (h1 : ∀ d ∈ D1, d ∈ D) (h2 : D2.Sublist D) {F : Nat → Prop} (hE : Exs F w w') (hF : ∀ k, F k → ∃ d ∈ D1, d.fp k) (hap : ∀ x ∈ D2, ∀ d ∈ D1, ∀ k, x.fp k → ¬ d.fp k) : Fk S w0 w' L D2 := by
  have hs := h2.subset
  refine ⟨h.exs.then hE fun i hi hf => ?_, fun v hv => ⟨(h.vars v hv).1, (h.vars v hv).2.exs hE fun hk => ?_⟩, h.dist, fun x hx => x.st _ _ ⟨hE.size, fun k hk hf => hE.block k hk fun he => ?_⟩ (h.data x (hs hx)), fun v hv x hx => h.apart v hv x (hs hx), h.dd.sublist h2, fun x hx => h.own x (hs hx)⟩
  · obtain ⟨d, hd, hk⟩ := hF i hf
    exact (h.own d (h1 d hd) i hk).resolve_left (by omega)
  · obtain ⟨d, hd, hk⟩ := hF _ hk
    exact h.apart v hv d (h1 d hd) hk
  · obtain ⟨d, hd, hk'⟩ := hF _ he
    exact hap x hx d hd k hf hk'
/-- D1 and D2 are parts of D -/
inductive Mrg : List DK → List DK → List DK → Prop
  | nil : Mrg [] [] []
  | l {x : DK} {D1 D2 D : List DK} : Mrg D1 D2 D → Mrg (x :: D1) D2 (x :: D)
  | r {x : DK} {D1 D2 D : List DK} : Mrg D1 D2 D → Mrg D1 (x :: D2) (x :: D)
theorem Mrg.left {D1 D2 D : List DK} (h : Mrg D1 D2 D) : D1.Sublist D := by
  induction h with
  | nil => exact List.Sublist.refl _
  | l _ ih => exact ih.cons_cons _
  | r _ ih => exact ih.cons _
theorem Mrg.right {D1 D2 D : List DK} (h : Mrg D1 D2 D) : D2.Sublist D := by
  induction h with
  | nil => exact List.Sublist.refl _
  | l _ ih => exact ih.cons _
  | r _ ih => exact ih.cons_cons _
theorem Mrg.apart {D1 D2 D : List DK} (h : Mrg D1 D2 D) (hp : D.Pairwise (fun d e => ∀ k, d.fp k → ¬ e.fp k)) : ∀ x ∈ D2, ∀ d ∈ D1, ∀ k, x.fp k → ¬ d.fp k := by
  induction h with
  | nil => intro x hx; cases hx
  | @l y D1 D2 D hm ih =>
    rw [List.pairwise_cons] at hp
    intro x hx d hd k hk hk'
    rcases List.mem_cons.1 hd with rfl | hd
    · exact hp.1 x (hm.right.subset hx) k hk' hk
    · exact ih hp.2 x hx d hd k hk hk'
  | @r y D1 D2 D hm ih =>
    rw [List.pairwise_cons] at hp
    intro x hx d hd k hk hk'
    rcases List.mem_cons.1 hx with rfl | hx
    · exact hp.1 d (hm.left.subset hd) k hk hk'
    · exact ih hp.2 x hx d hd k hk hk'
theorem Fk.give (h : Fk S w0 w L D) {D1 D2 : List DK} (hm : Mrg D1 D2 D) {F : Nat → Prop} (hE : Exs F w w') (hF : ∀ k, F k → ∃ d ∈ D1, d.fp k) : Fk S w0 w' L D2 :=
  h.drop D1 D2 (fun d hd => hm.left.subset hd) hm.right hE hF (hm.apart h.dd)
/-- two facts of the list -/
theorem Fk.two (h : Fk S w0 w L D) {D1 D2 : List DK} {d e : DK} (hD : D = D1 ++ d :: D2) (he : e ∈ D1 ∨ e ∈ D2) : ∀ k, d.fp k → ¬ e.fp k := by
  subst hD
  have hdd := h.dd
  rw [List.pairwise_append, List.pairwise_cons] at hdd
  intro k hk hk'
  rcases he with he | he
  · exact hdd.2.2 e he d (List.mem_cons_self ..) k hk' hk
  · exact hdd.2.1.1 e he k hk hk'
theorem kmemH {d : DK} {D : List DK} : d ∈ d :: D := List.mem_cons_self ..
theorem kmemT {d x : DK} {D : List DK} (h : d ∈ D) : d ∈ x :: D := List.mem_cons_of_mem _ h
end

/-! ### Steps -/
section
variable {P : Program} {N : Nat} {Q : Exit → Act → World → Prop} {σ : Store} {S : Nat → Prop} {w0 w : World} {L : List VB} {D : List DK} {ops : Array Oper} {d : Nat} {t : TypeId} {pos : String} {af : Array Edge} {rest : List Oper} {l : List Oper}
theorem T.regionFk (hF : Fk S w0 w L D) (id : Nat) (f : Nat) (t : Rt) (hm : P.follows .mixedOrders = true) (hB : treeB l.toArray f t = true)
    (h : ∀ w1 : World, Fk S w0 w1 L D → TF P N l Q (fun w' => Fk S w0 w' L D) f t σ w1) : T P N (.region id l.toArray true) Q σ w :=
  T.regionF _ f t hm hB (hF.exts (ext_drewN w 1)) (h _ (hF.exts (ext_drewN w 1)))
theorem TL.nilFk (hF : Fk S w0 w L D) (h : ∀ w1 : World, Fk S w0 w1 L D → G N .normal Q σ w1) : TL P N .quiet ops Q [] σ w := TL.nilQ fun n => h _ (hF.exts (ext_drewN w n))
theorem TL.boxFk (hF : Fk S w0 w L D) {x : Operand} {ty : TypeId} {v : Value} (hx : look σ x = some v) (hd : Nat.blt d N = true)
    (K : ∀ w' b, Fk S w0 w' (⟨b, ty, v.cells.toList⟩ :: L) D → TL P N .seq ops Q rest ((d, .pointer (some ⟨b, 0, none⟩)) :: σ) w') :
    TL P N .seq ops Q (⟨some d, .box ty x, t, pos, af, none⟩ :: rest) σ w :=
  TL.box hx hd fun w' b hb hV hE _ => K w' b (hF.new hb hV hE)
theorem TL.boxAFk (hF : Fk S w0 w L D) {x : Operand} {ty : TypeId} {cs : List Value} (hx : look σ x = some (.agg cs.toArray)) (hd : Nat.blt d N = true)
    (K : ∀ w' b, Fk S w0 w' (⟨b, ty, cs⟩ :: L) D → TL P N .seq ops Q rest ((d, .pointer (some ⟨b, 0, none⟩)) :: σ) w') :
    TL P N .seq ops Q (⟨some d, .box ty x, t, pos, af, none⟩ :: rest) σ w :=
  TL.boxA hx hd fun w' b hb hV hE _ => K w' b (hF.new hb hV hE)
theorem TL.allocFk (hF : Fk S w0 w L D) {ty : TypeId} {z : Value} {sz b1 : Nat} [hS : USize P ty z sz b1] {cs : List Value} (hz : z.cells.toList = cs) (hd : Nat.blt d N = true)
    (K : ∀ w' b, Fk S w0 w' (⟨b, ty, cs⟩ :: L) D → TL P N .seq ops Q rest ((d, .pointer (some ⟨b, 0, none⟩)) :: σ) w') :
    TL P N .seq ops Q (⟨some d, .alloc ty, t, pos, af, none⟩ :: rest) σ w :=
  TL.alloc hd fun w' b hb hV hE _ => K w' b (hF.new hb (by rw [← hz]; exact hV) hE)
theorem TL.storeAFk (hF : Fk S w0 w L D) {x y : Operand} {ty e : TypeId} {z : Value} {sz b1 : Nat} [hS : USize P ty z sz b1] {b o : Nat} {cs r vs : List Value} {L' : List VB} (hx : look σ x = some (.pointer (some ⟨b, o, none⟩))) (hy : look σ y = some (.agg vs.toArray))
    (hsz : Nat.beq vs.length sz = true) (h1 : vs.all (·.oneCell') = true) (h : SetV L b e cs r L' ∧ putO cs o vs = some r) (hc : True = True)
    (K : ∀ w', Fk S w0 w' L' D → TL P N .seq ops Q rest σ w') : TL P N .seq ops Q (⟨none, .store ty x y, t, pos, af, none⟩ :: rest) σ w :=
  TL.storeVA hx hy hsz h1 (hF.var h.1.inV) h.2 fun w' h1 h2 => K w' (hF.store h.1 h2 h1)
theorem TL.storeFk (hF : Fk S w0 w L D) {x y : Operand} {ty e : TypeId} {z : Value} {b1 : Nat} [hS : USize P ty z 1 b1] {b o : Nat} {cs r : List Value} {v : Value} {L' : List VB} (hx : look σ x = some (.pointer (some ⟨b, o, none⟩))) (hy : look σ y = some v) (hvs : v.cells.toList = [v]) (h1 : v.oneCell' = true) (h : SetV L b e cs r L' ∧ putO cs o [v] = some r) (hc : True = True)
    (K : ∀ w', Fk S w0 w' L' D → TL P N .seq ops Q rest σ w') : TL P N .seq ops Q (⟨none, .store ty x y, t, pos, af, none⟩ :: rest) σ w :=
  TL.storeV hx hy hvs h1 (hF.var h.1.inV) h.2 fun w' h1 h2 => K w' (hF.store h.1 h2 h1)
end
section
variable {P : Program} {σ : Store} {d : Option Tmp} {t : TypeId} {pos : String} {af : Array Edge} {gd : Option (Nat × Bool)} {S : Nat → Prop} {w0 w : World} {L : List VB} {D : List DK}
theorem ev_loadFk (hF : Fk S w0 w L D) {x : Operand} {ty e : TypeId} [hO : UOne P ty] {b o : Nat} {cs : List Value} {v : Value} (hx : look σ x = some (.pointer (some ⟨b, o, none⟩))) (h : InV L b e cs ∧ nthV cs o = some v) : Ev P σ w.heap ⟨d, .load ty x, t, pos, af, gd⟩ v := ev_loadV hx (hF.var h.1) h.2
theorem ev_loadAFk (hF : Fk S w0 w L D) {x : Operand} {ty e : TypeId} [hA : UAgg P ty] {z : Value} {sz b1 : Nat} [hS : USize P ty z sz b1] {b o : Nat} {cs cs' : List Value} (hx : look σ x = some (.pointer (some ⟨b, o, none⟩))) (h : InV L b e cs ∧ subV cs o sz = some cs') :
    Ev P σ w.heap ⟨d, .load ty x, t, pos, af, gd⟩ (.agg cs'.toArray) := ev_loadVA hx (hF.var h.1) h.2
end

/-! ### Lists of words that have a block of their own -/
theorem putO_set : ∀ {cs : List Value} {k : Nat} (v : Value), k < cs.length → putO cs k [v] = some (cs.set k v)
  | [], k, v, h => by simp at h
  | a :: cs, 0, v, h => by simp [putO]
  | a :: cs, k + 1, v, h => by
    have := putO_set (cs := cs) (k := k) v (by simpa using h)
    simp only [putO, this, List.set_cons_succ]
theorem ow_iff {α : Type} {f : α → Value} {H : Array Obj} {lo : Nat} {t : TypeId} {A : Option Addr} {n c : Nat} {l : List α} : Ow f H lo t A n c l ↔ l.length = n ∧ ((A = none ∧ n = 0 ∧ c = 0) ∨ ∃ g cur, A = some ⟨g, 0, none⟩ ∧ lo ≤ g ∧ H[g]? = some (.cells cur t (0, 0)) ∧ n ≤ c ∧ c ≤ maxLen ∧ cur.size = c ∧ cur.toList.take n = l.map f) := by unfold Ow; exact Iff.rfl
section
variable {H : Array Obj} {t : TypeId} {A : Option Addr} {n c : Nat} {l : List Nat}
/-- a list at the head of a block of its own -/
def dkO (t : TypeId) (A : Option Addr) (n c : Nat) (l : List Nat) : DK where
  p H := Ow u64v H 0 t A n c l
  fp k := A = some ⟨k, 0, none⟩
  lt H k h hk := by
    rcases (ow_iff.1 h).2 with ⟨e, _⟩ | ⟨g, cur, e, _, hg, _⟩
    · rw [e] at hk; cases hk
    · rw [e] at hk; cases hk; exact (Array.getElem?_eq_some_iff.1 hg).1
  st H H' hd h := by
    have h' := ow_iff.1 h
    refine ow_iff.2 ⟨h'.1, h'.2.imp id ?_⟩
    rintro ⟨g, cur, e, h1, hg, h2⟩
    exact ⟨g, cur, e, h1, (hd.block g (Array.getElem?_eq_some_iff.1 hg).1 e).trans hg, h2⟩
theorem Ow.fresh {lo : Nat} (h : Ow u64v H lo t A n c l) (k : Nat) (hk : A = some ⟨k, 0, none⟩) : lo ≤ k := by
  rcases (ow_iff.1 h).2 with ⟨e, _⟩ | ⟨g, cur, e, h1, _⟩
  · rw [e] at hk; cases hk
  · rw [e] at hk; cases hk; exact h1
theorem Ow.at0 {lo : Nat} (h : Ow u64v H lo t A n c l) : Ow u64v H 0 t A n c l := h.mono (Nat.zero_le _)
theorem Fk.addO {S : Nat → Prop} {w0 w w' : World} {L : List VB} {D : List DK} (h : Fk S w0 w L D) (hE : Ext w w') (hO : Ow u64v w'.heap w.heap.size t A n c l) : Fk S w0 w' L (dkO t A n c l :: D) := h.addNew hE _ hO.at0 fun k hk => hO.fresh k hk
theorem Fk.o {S : Nat → Prop} {w0 w : World} {L : List VB} {D : List DK} (h : Fk S w0 w L D) (hm : dkO t A n c l ∈ D) : Ow u64v w.heap 0 t A n c l := h.data _ hm
theorem Fk.sl {S : Nat → Prop} {w0 w : World} {L : List VB} {D : List DK} (h : Fk S w0 w L D) (hm : dkO t A n c l ∈ D) : Sl u64v w.heap w.heap.size A n c l := (h.o hm).sl (Nat.le_refl _)
theorem Fk.storeO {S : Nat → Prop} {w0 w w' : World} {L : List VB} {D D' : List DK} {n' : Nat} {l' : List Nat} (h : Fk S w0 w L D) (hS : SetD D (dkO t A n c l) (dkO t A n' c l') D') (hE : Exs (fun j => A = some ⟨j, 0, none⟩) w w') (hO : Ow u64v w'.heap 0 t A n' c l') : Fk S w0 w' L D' := h.write hS hE hO fun k hk => .inl hk
/-- facts grouped anew -/
theorem Fk.re {S : Nat → Prop} {w0 w : World} {L : List VB} {D : List DK} (h : Fk S w0 w L D) (D' : List DK) (hp : ∀ d ∈ D', d.p w.heap) (hf : ∀ d ∈ D', ∀ k, d.fp k → ∃ e ∈ D, e.fp k) (hdd : D'.Pairwise (fun d e => ∀ k, d.fp k → ¬ e.fp k)) : Fk S w0 w L D' :=
  ⟨h.exs, h.vars, h.dist, hp, fun v hv d hd hk => by obtain ⟨e, he, hk'⟩ := hf d hd _ hk; exact h.apart v hv e he hk', hdd, fun d hd k hk => by obtain ⟨e, he, hk'⟩ := hf d hd _ hk; exact h.own e he k hk'⟩
/-- a fact to begin with, on blocks of S -/
theorem Fk.own0 {S : Nat → Prop} {w : World} (d : DK) (hp : d.p w.heap) (hf : ∀ k, d.fp k → S k) : Fk S w w [] [d] :=
  ⟨Exs.refl _ _, fun _ h => (by cases h), List.Pairwise.nil, fun x hx => by rw [List.mem_singleton] at hx; rw [hx]; exact hp, fun _ h => (by cases h), List.pairwise_singleton _ _, fun x hx k hk => by rw [List.mem_singleton] at hx; rw [hx] at hk; exact .inr (hf k hk)⟩
theorem Ow.exs {S : Nat → Prop} {w w' : World} {lo : Nat} (hE : Exs S w w') (hS : ∀ k, A = some ⟨k, 0, none⟩ → ¬ S k) (h : Ow u64v w.heap lo t A n c l) : Ow u64v w'.heap lo t A n c l := by
  have h' := ow_iff.1 h
  refine ow_iff.2 ⟨h'.1, h'.2.imp id ?_⟩
  rintro ⟨g, cur, e, h1, hg, h2⟩
  exact ⟨g, cur, e, h1, (hE.block g (Array.getElem?_eq_some_iff.1 hg).1 (hS g e)).trans hg, h2⟩
theorem Ow.de {F : Nat → Prop} {H' : Array Obj} {lo : Nat} (hE : DEk F H H') (hS : ∀ k, A = some ⟨k, 0, none⟩ → F k) (h : Ow u64v H lo t A n c l) : Ow u64v H' lo t A n c l := by
  have h' := ow_iff.1 h
  refine ow_iff.2 ⟨h'.1, h'.2.imp id ?_⟩
  rintro ⟨g, cur, e, h1, hg, h2⟩
  exact ⟨g, cur, e, h1, (hE.block g (Array.getElem?_eq_some_iff.1 hg).1 (hS g e)).trans hg, h2⟩
theorem Ow.blt {lo : Nat} (h : Ow u64v H lo t A n c l) {k : Nat} (hk : A = some ⟨k, 0, none⟩) : k < H.size := by
  rcases (ow_iff.1 h).2 with ⟨e, _⟩ | ⟨g, cur, e, _, hg, _⟩
  · rw [e] at hk; cases hk
  · rw [e] at hk; cases hk; exact (Array.getElem?_eq_some_iff.1 hg).1
theorem dkO_fp {k : Nat} : (dkO t A n c l).fp k ↔ A = some ⟨k, 0, none⟩ := Iff.rfl
theorem dkO_p {H : Array Obj} : (dkO t A n c l).p H ↔ Ow u64v H 0 t A n c l := Iff.rfl
end
section
variable {P : Program} {N : Nat} {Q : Exit → Act → World → Prop} {σ : Store} {w : World} {ops : Array Oper} {d : Nat} {t : TypeId} {pos : String} {af : Array Edge} {rest : List Oper}
/-- a new list of words, all 0 -/
theorem TL.makeOw {S : Nat → Prop} {w0 : World} {L : List VB} {D : List DK} (hF : Fk S w0 w L D) {x y : Operand} {ty e : TypeId} [hT : USlice P ty e] {b1 : Nat} [hS : USize P e (.int .u64 0) 1 b1] {k k' : IntKind} {z1 z2 : Int} {n : Nat} [e1 : IsN z1 n] [e2 : IsN z2 n]
    (hx : look σ x = some (.int k z1)) (hy : look σ y = some (.int k' z2)) (hd : Nat.blt d N = true) (hc : b1 * n ≤ 281474976710656 ∧ n ≤ 9223372036854775807)
    (K : ∀ w' b, Fk S w0 w' L (dkO e (some ⟨b, 0, none⟩) n n (List.replicate n 0) :: D) → TL P N .seq ops Q rest ((d, .slice (some ⟨b, 0, none⟩) n n) :: σ) w') :
    TL P N .seq ops Q (⟨some d, .makeSlice ty x y, t, pos, af, none⟩ :: rest) σ w :=
  TL.makeU hx hy hd (Nat.le_refl _) hc fun w' b hb hB hE _ => K w' b (hF.addO hE (by
    have h := hB.ow (k := n) (c := n) (lo := w.heap.size) (by simp) (by simp) (by simp; unfold maxLen; omega) (by omega)
    simpa using h))
/-- a word stored into a list with a block of its own -/
theorem TL.storeOw {x y : Operand} {ty e : TypeId} {z0 : Value} {b1 : Nat} [hS : USize P ty z0 1 b1] {A : Option Addr} {n c k lo : Nat} {l : List Nat} {zu : Int} {u : Nat} [eu : IsN zu u]
    (hx : look σ x = some (.pointer (elemA A k))) (hy : look σ y = some (.int .u64 zu)) (hO : Ow u64v w.heap lo e A n c l) (hk : k < n)
    (K : ∀ w', Ow u64v w'.heap lo e A n c (l.set k u) → Exs (fun j => A = some ⟨j, 0, none⟩) w w' → TL P N .seq ops Q rest σ w') :
    TL P N .seq ops Q (⟨none, .store ty x y, t, pos, af, none⟩ :: rest) σ w := by
  obtain ⟨hl, h⟩ := ow_iff.1 hO
  rcases h with ⟨_, h0, _⟩ | ⟨g, cur, rfl, hlo, hg, hnc, hcm, hsz, htk⟩
  · omega
  · have hV : Vr w.heap g e cur.toList := by unfold Vr; simpa using hg
    have hlen : cur.toList.length = c := by simpa using hsz
    have hput := putO_set (k := k) (u64v u) (show k < cur.toList.length by omega)
    refine TL.storeV (b := g) (o := k) (e := e) (cs := cur.toList) (v := u64v u) (by rw [hx]; simp [elemA, add_mk]) (by rw [hy, eu.out]; rfl) rfl rfl hV hput fun w' hV' hu => K w' (ow_iff.2 ⟨by simpa using hl, .inr ⟨g, (cur.toList.set k (u64v u)).toArray, rfl, hlo, hV', hnc, hcm, by simp [hsz], ?_⟩⟩) (hu.exs.mono fun j _ e => by rw [e])
    simp only [List.take_set, htk]
    exact (List.map_set).symm
/-- one word appended to a list with a block of its own: in place, or in a new block -/
theorem TL.appendOw {x y : Operand} {ty e : TypeId} [hT : USlice P ty e] {b1 : Nat} [hS : USize P e (.int .u64 0) 1 b1] {A A' : Option Addr} {n c c' B lo : Nat} {l : List Nat} {u : Nat}
    (hx : look σ x = some (.slice A n c)) (hy : look σ y = some (.slice A' 1 c')) (hd : Nat.blt d N = true) (hO : Ow u64v w.heap lo e A n c l) (hs : Sl u64v w.heap B A' 1 c' [u])
    (hroom : (n + 1) * b1 ≤ 140737488355328 ∧ n + 1 ≤ 9223372036854775807)
    (K : ∀ w' A2 c2, Ow u64v w'.heap 0 e A2 (n + 1) c2 (l ++ [u]) → (A2 = A ∧ c2 = c ∧ Exs (fun j => A = some ⟨j, 0, none⟩) w w' ∨ (∀ k, A2 = some ⟨k, 0, none⟩ → w.heap.size ≤ k) ∧ Ext w w') → TL P N .seq ops Q rest ((d, .slice A2 (n + 1) c2) :: σ) w') :
    TL P N .seq ops Q (⟨some d, .call { callee := .builtin .append, args := #[x, y], argTypes := #[ty, ty] }, t, pos, af, none⟩ :: rest) σ w := by
  obtain ⟨i, hi, hz0, hsz, hby⟩ := hS.info
  obtain ⟨hl, h⟩ := ow_iff.1 hO
  rcases hs.mem with h0 | ⟨b', o, rfl, _, hm⟩
  · omega
  have hnews : ∀ j v, ([u64v u] : List Value)[j]? = some v → w.cell? ((⟨b', o, none⟩ : Addr).add j) = some v := fun j v hv => by
    have hj : j = 0 := by have := (List.getElem?_eq_some_iff.1 hv).1; simpa using this
    subst hj
    simp at hv
    subst hv
    rw [add_mk, cell_of_hcell]
    exact hm 0 u rfl
  have hE : ∀ o, Ext w (w.drew.alloc o) := fun o => ⟨rfl, rfl, rfl, by simp, fun k hk => heap_alloc_old w.drew _ (by simpa using hk)⟩
  have hone : ∀ v ∈ [u64v u], v.oneCell' = true := fun v hv => by rw [List.mem_singleton] at hv; subst hv; rfl
  rcases h with ⟨rfl, h0, h0'⟩ | ⟨g, cur, rfl, hlo, hg, hnc, hcm, hcs, htk⟩
  · subst h0 h0'
    have hl0 : l = [] := List.eq_nil_of_length_eq_zero hl
    subst hl0
    have hr := run_append_nil (P := P) w ty t e i _ hT.out hi hz0 ⟨b', o, none⟩ 1 c' [u64v u] (by simp [hsz]) hnews (by omega) (by omega) (by rw [hby]; omega)
    have hge := grownCap_ge w 1 0 e
    have hcm : grownCap w 1 0 e ≤ maxLen := grownCap_le_maxLen w 1 0 e (by unfold maxLen; omega)
    have hB : ∀ cap, 1 ≤ cap → cap ≤ maxLen → Ow u64v (w.drew.alloc (.cells (([u64v u] : List Value).toArray ++ Builtin.zeroCells (Value.int .u64 0).cells (cap - 1)) e)).heap w.heap.size e (some ⟨w.heap.size, 0, none⟩) 1 cap [u] := by
      intro cap h1 h2
      refine ow_iff.2 ⟨rfl, .inr ⟨w.heap.size, _, rfl, Nat.le_refl _, heap_alloc_new w.drew _, h1, h2, ?_, ?_⟩⟩
      · simp [size_zeroCells, Value.cells]; omega
      · simp
    have hO2 := hB _ hge hcm
    refine TL.op (fun ρ hρ => ?_) hd (K _ _ _ hO2.at0 (.inr ⟨fun k hk => hO2.fresh k hk, hE _⟩))
    simp [execOp, resolve, invoke, builtin, hρ x _ hx, hρ y _ hy, hr]
  · have hlen : cur.toList.length = c := by simpa using hcs
    rcases Nat.lt_or_ge c (n + 1) with hcn | hcn
    · obtain rfl : n = c := by omega
      have holds : ∀ j v, (l.map u64v)[j]? = some v → w.cell? ((⟨g, 0, none⟩ : Addr).add j) = some v := by
        intro j v hv
        rw [add_mk, cell_of_hcell]
        unfold hcell
        rw [hg]
        rw [← htk, List.getElem?_take] at hv
        split at hv
        · simpa using hv
        · cases hv
      have hr := run_append_grow (P := P) w ty t e i _ hT.out hi hz0 ⟨g, 0, none⟩ n n (l.map u64v) (by simp [hl, hsz]) holds ⟨b', o, none⟩ 1 c' [u64v u] (by simp [hsz]) hnews (by omega) (by omega) (growslice_fits (by omega) (by rw [hby]; exact hroom.1))
      have hge := grownCap_ge w (n + 1) n e
      have hcm2 : grownCap w (n + 1) n e ≤ maxLen := grownCap_le_maxLen w (n + 1) n e (by unfold maxLen; omega)
      have hB : ∀ cap, n + 1 ≤ cap → cap ≤ maxLen → Ow u64v (w.drew.alloc (.cells ((l.map u64v).toArray ++ ([u64v u] : List Value).toArray ++ Builtin.zeroCells (Value.int .u64 0).cells (cap - (n + 1))) e)).heap w.heap.size e (some ⟨w.heap.size, 0, none⟩) (n + 1) cap (l ++ [u]) := by
        intro cap h1 h2
        refine ow_iff.2 ⟨by simp [hl], .inr ⟨w.heap.size, _, rfl, Nat.le_refl _, heap_alloc_new w.drew _, h1, h2, ?_, ?_⟩⟩
        · simp [size_zeroCells, Value.cells, hl]; omega
        · simp only [Array.toList_append, List.toList_toArray]
          rw [List.take_left' (by simp [hl])]
          simp
      have hO2 := hB _ hge hcm2
      refine TL.op (fun ρ hρ => ?_) hd (K _ _ _ hO2.at0 (.inr ⟨fun k hk => hO2.fresh k hk, hE _⟩))
      simp [execOp, resolve, invoke, builtin, hρ x _ hx, hρ y _ hy, hr]
    · have hr := run_append_room (P := P) w ty t e i hT.out hi g n c cur hg ⟨b', o, none⟩ 1 c' [u64v u] (by simp [hsz]) hnews hone hcn (by simp [hsz]; omega)
      have hV : Vr w.heap g e cur.toList := by unfold Vr; simpa using hg
      rw [hsz] at hr
      simp only [Nat.mul_one, List.length_singleton] at hr
      have hO2 : Ow u64v (w.setRow g (cur.toList.take n ++ [u64v u] ++ cur.toList.drop (n + 1)).toArray).heap 0 e (some ⟨g, 0, none⟩) (n + 1) c (l ++ [u]) := by
        refine ow_iff.2 ⟨by simp [hl], .inr ⟨g, _, rfl, Nat.zero_le _, setRow_heap w g _ _ e _ (by simpa using hg), hcn, hcm, by simp [hlen]; omega, ?_⟩⟩
        rw [htk]
        simp only [List.toList_toArray]
        rw [List.take_left' (by simp [hl])]
        simp
      refine TL.op (fun ρ hρ => ?_) hd (K _ _ _ hO2 (.inl ⟨rfl, rfl, (upd_setRow _ _ _).exs.mono fun j _ e => by rw [e]⟩))
      simp [execOp, resolve, invoke, builtin, hρ x _ hx, hρ y _ hy, hr]
end
attribute [irreducible] dkO
end Go.Eng
