/- The engine: regions whose order is drawn, by a tree of orders, under a condition on the world that all effects but the last keep; results that lie in memory; closures. -/
import Derived.Test.YtgmhldapndhoeaaEngV
set_option linter.unusedVariables false
set_option linter.unusedSimpArgs false
namespace Go.Eng
open Go Go.RowKit

/-- a tree of orders: s: taken first; e: an effect; alt: one of several -/
inductive Rt where
  | nil
  | s (i : Nat) (r : Rt)
  | e (i : Nat) (r : Rt)
  | alt (a b : Rt)
def Rt.heads : Rt → List Nat
  | .e i _ => [i]
  | .alt a b => a.heads ++ b.heads
  | _ => []
def afters (ops : Array Oper) (j : Nat) : List Nat := match ops[j]? with
  | some o => (o.after.toList.filter (fun e => Region.binds .any e)).map (·.on)
  | none => []
def ins : List Nat → List Nat → List Nat
  | [], acc => acc
  | j :: l, acc => ins l (if acc.contains j then acc else j :: acc)
def clos (ops : Array Oper) : Nat → List Nat → List Nat
  | 0, l => l
  | n + 1, l => clos ops n (ins (l.flatMap (afters ops)) l)
theorem mem_ins : ∀ (l acc : List Nat) (j : Nat), j ∈ ins l acc → j ∈ l ∨ j ∈ acc
  | [], acc, j, h => .inr h
  | x :: l, acc, j, h => by
    rcases mem_ins l _ j h with h | h
    · exact .inl (List.mem_cons_of_mem _ h)
    · split at h
      · exact .inr h
      · rcases List.mem_cons.1 h with rfl | h
        · exact .inl (List.mem_cons_self ..)
        · exact .inr h
theorem afters_listed {ops : Array Oper} {L : Array Bool} (inv : CInv ops L) {j i : Nat} (hj : L.getD j false = true) (hi : i ∈ afters ops j) : L.getD i false = true := by
  unfold afters at hi
  cases ho : ops[j]? with
  | none => rw [ho] at hi; cases hi
  | some o =>
    rw [ho] at hi
    obtain ⟨e, he, rfl⟩ := List.mem_map.1 hi
    have := List.mem_filter.1 he
    exact inv.closed j o ho hj e (by simpa using this.1) this.2
theorem clos_listed {ops : Array Oper} {L : Array Bool} (inv : CInv ops L) : ∀ (n : Nat) (l : List Nat), (∀ j ∈ l, L.getD j false = true) → ∀ j ∈ clos ops n l, L.getD j false = true
  | 0, l, h, j, hj => h j hj
  | n + 1, l, h, j, hj => clos_listed inv n _ (fun k hk => by
    rcases mem_ins _ _ _ hk with hk | hk
    · obtain ⟨q, hq, hk⟩ := List.mem_flatMap.1 hk
      exact afters_listed inv (h q hq) hk
    · exact h k hk) j hj
/-- i comes before f in every order -/
def before (ops : Array Oper) (f i : Nat) : Bool := Nat.ble ops.size f || (clos ops ops.size (afters ops f)).contains i
theorem before_spec {ops : Array Oper} {L : Array Bool} (inv : CInv ops L) {f i : Nat} (h : before ops f i = true) (hi : L.getD i false = false) : f ∉ Region.ready .any ops L := by
  intro hr
  obtain ⟨_, o, ho, hall⟩ := mem_ready.1 hr
  simp only [before, Bool.or_eq_true, Nat.ble_eq] at h
  rcases h with h | h
  · have := (Array.getElem?_eq_some_iff.1 ho).1; omega
  · have := clos_listed inv ops.size (afters ops f) (fun j hj => by
      unfold afters at hj
      rw [ho] at hj
      obtain ⟨e, he, rfl⟩ := List.mem_map.1 hj
      have h2 := List.mem_filter.1 he
      exact hall e (by simpa using h2.1) h2.2) i (by simpa using h)
    rw [this] at hi; cases hi
def Rt.depth : Rt → Nat
  | .nil => 0
  | .s _ r => r.depth + 1
  | .e _ r => r.depth + 1
  | .alt a b => max a.depth b.depth
def Rt.isNil : Rt → Bool
  | .nil => true
  | _ => false
def treeC (ops : Array Oper) (f : Nat) : Rt → Bool → Array Bool → Bool
  | .nil, _, L => (Region.ready .any ops L).isEmpty
  | .s i r, _, L => (Region.ready .any ops L).contains i && Region.free .any ops L i && !Nat.beq i f && before ops f i && treeC ops f r true (L.setIfInBounds i true)
  | .e i r, top, L => (!top || decide (Region.ready .any ops L = [i])) && (!Nat.beq i f || r.isNil) && treeC ops f r true (L.setIfInBounds i true)
  | .alt a b, top, L => (!top || (decide (Region.ready .any ops L = a.heads ++ b.heads) && !(a.heads ++ b.heads).isEmpty)) && treeC ops f a false L && treeC ops f b false L
def treeB (ops : Array Oper) (f : Nat) (t : Rt) : Bool := Region.noSelect ops && Nat.ble t.depth ops.size && treeC ops f t true (Array.replicate ops.size false)
/-- whatever order is drawn; behind all operations but f, S holds -/
def wpAnyF (P : Program) (ops : Array Oper) (Q : Exit → Act → World → Prop) (S : World → Prop) (f : Nat) : Nat → Array Bool → Act → World → Prop
  | 0, L, a, w => Region.ready .any ops L = [] ∧ Q .normal a w
  | n + 1, L, a, w => (Region.ready .any ops L = [] → Q .normal a w) ∧ ∀ i ∈ Region.ready .any ops L, wpOp P ops Q i (fun a' w' => (i ≠ f → S w') ∧ wpAnyF P ops Q S f n (L.setIfInBounds i true) a' w') a w
def wpTree (P : Program) (ops : Array Oper) (Q : Exit → Act → World → Prop) (S : World → Prop) (f : Nat) : Rt → Act → World → Prop
  | .nil, a, w => Q .normal a w
  | .s i r, a, w => ∃ o v, ops[i]? = some o ∧ YieldsIf P ops S o v a ∧ wpTree P ops Q S f r (a.put o.dst v) w
  | .e i r, a, w => wpOp P ops Q i (fun a' w' => (i ≠ f → S w') ∧ wpTree P ops Q S f r a' w') a w
  | .alt x y, a, w => wpTree P ops Q S f x a w ∧ wpTree P ops Q S f y a w
section
variable {P : Program} {ops : Array Oper} {Q : Exit → Act → World → Prop} {S : World → Prop} {f : Nat}
theorem wpAny_of_F : ∀ (n : Nat) (L : Array Bool) (a : Act) (w : World), wpAnyF P ops Q S f n L a w → wpAny P .any ops Q n L a w
  | 0, _, _, _, h => h
  | n + 1, _, _, _, h => ⟨h.1, fun i hi => wpOp_mono (fun a' w' h' => wpAny_of_F n _ a' w' h'.2) (h.2 i hi)⟩
theorem wpAnyF_more : ∀ (n : Nat) (L : Array Bool) (a : Act) (w : World), wpAnyF P ops Q S f n L a w → wpAnyF P ops Q S f (n + 1) L a w
  | 0, L, a, w, h => ⟨fun _ => h.2, fun i hi => by rw [h.1] at hi; cases hi⟩
  | n + 1, L, a, w, h => ⟨h.1, fun i hi => wpOp_mono (fun a' w' h' => ⟨h'.1, wpAnyF_more n _ a' w' h'.2⟩) (h.2 i hi)⟩
theorem wpAnyF_le {n m : Nat} (hm : n ≤ m) {L : Array Bool} {a : Act} {w : World} (h : wpAnyF P ops Q S f n L a w) : wpAnyF P ops Q S f m L a w := by
  induction hm with
  | refl => exact h
  | step _ ih => exact wpAnyF_more _ _ _ _ ih
theorem wpAnyF_first {i : Nat} {oi : Oper} {v : Value} (hi : ops[i]? = some oi) (hif : i ≠ f) (hbf : before ops f i = true) (hsel : ∀ (j : Nat) (o : Oper) cs b, ops[j]? = some o → o.op ≠ .select cs b)
    (hQ : ∀ c a w, Q (.panic c) (a.put oi.dst v) w → Q (.panic c) a w) :
    ∀ (n : Nat) (L : Array Bool) (a : Act) (w : World), CInv ops L →
      (∀ j oj, ops[j]? = some oj → j ≠ i → L.getD j true = false → (∀ e ∈ oj.after, Region.binds .any e = true → e.on ≠ i) → oi.apart ops oj = true) →
      i ∈ Region.ready .any ops L → YieldsIf P ops S oi v a → S w →
      wpAnyF P ops Q S f n (L.setIfInBounds i true) (a.put oi.dst v) w → wpAnyF P ops Q S f (n + 1) L a w := by
  intro n
  induction n with
  | zero =>
    intro L a w inv _ hr hy hS H
    refine ⟨fun h => (by rw [h] at hr; cases hr), fun j hj => ?_⟩
    by_cases hji : j = i
    · subst hji; exact hy.wpOp hi hS ⟨fun _ => hS, H⟩
    · have := ready_mono hj hji
      rw [H.1] at this
      cases this
  | succ n ih =>
    intro L a w inv hfree hr hy hS H
    refine ⟨fun h => (by rw [h] at hr; cases hr), fun j hj => ?_⟩
    by_cases hji : j = i
    · subst hji; exact hy.wpOp hi hS ⟨fun _ => hS, H⟩
    · have h1 := H.2 j (ready_mono hj hji)
      obtain ⟨hjun, oj, hoj, hall⟩ := mem_ready.1 hj
      have hun := (mem_ready.1 hr).1
      have hun' : L.getD i false = false := getD_both hun
      have hjf : j ≠ f := fun e => by subst e; exact before_spec inv hbf hun' hj
      have hnot : ∀ e ∈ oj.after, Region.binds .any e = true → e.on ≠ i := fun e he hb heq => by
        have h1 := hall e he hb
        rw [heq, hun'] at h1
        cases h1
      have h2 := wpOp_putIf hoj (hfree j oj hoj hji hjun hnot) (fun cs b => hsel i oi cs b hi) (fun cs b => hsel j oj cs b hoj) hQ hy h1
      have hfree' : ∀ k ok, ops[k]? = some ok → k ≠ i → (L.setIfInBounds j true).getD k true = false →
          (∀ e ∈ ok.after, Region.binds .any e = true → e.on ≠ i) → oi.apart ops ok = true := fun k ok hk hki hun hno => by
        refine hfree k ok hk hki ?_ hno
        by_cases hjk : j = k
        · subst hjk; exact hjun
        · rw [getD_set_ne true hjk] at hun; exact hun
      refine wpOp_mono (fun a' w' h3 => ⟨fun _ => h3.2.1 hjf, ih (L.setIfInBounds j true) a' w' (inv.set hj) hfree' (ready_mono hr (Ne.symm hji)) h3.1 (h3.2.1 hjf) ?_⟩) h2
      rw [Array.setIfInBounds_comm _ _ hji]
      exact h3.2.2
theorem wpTree_both (hsel : Region.noSelect ops = true) (hQ : ∀ c a w, ¬ Q (.panic c) a w) (t : Rt) :
    (∀ (n : Nat) (L : Array Bool) (a : Act) (w : World), CInv ops L → t.depth ≤ n → treeC ops f t true L = true → (t = .nil ∨ S w) → wpTree P ops Q S f t a w → wpAnyF P ops Q S f n L a w) ∧
    (∀ (n : Nat) (L : Array Bool) (a : Act) (w : World), CInv ops L → t.depth ≤ n + 1 → treeC ops f t false L = true → wpTree P ops Q S f t a w → (∀ i ∈ t.heads, i ∈ Region.ready .any ops L) →
      ∀ i ∈ t.heads, wpOp P ops Q i (fun a' w' => (i ≠ f → S w') ∧ wpAnyF P ops Q S f n (L.setIfInBounds i true) a' w') a w) := by
  induction t with
  | nil =>
    refine ⟨fun n L a w inv hd hC hS h => ?_, fun n L a w inv hd hC h hr i hi => by cases hi⟩
    refine wpAnyF_le (Nat.zero_le n) ⟨?_, h⟩
    simpa [treeC] using hC
  | s i r ih =>
    refine ⟨fun n L a w inv hd hC hS h => ?_, fun n L a w inv hd hC h hr i hi => by cases hi⟩
    simp only [treeC, Bool.and_eq_true, Bool.not_eq_true'] at hC
    obtain ⟨⟨⟨⟨hrd, hf⟩, hif0⟩, hbf⟩, hC'⟩ := hC
    have hif : i ≠ f := fun e => by subst e; simp at hif0
    obtain ⟨o, v, ho, hy, h'⟩ := h
    have hS' : S w := hS.resolve_left (by simp)
    obtain ⟨m, rfl⟩ : ∃ m, n = m + 1 := ⟨n - 1, by simp only [Rt.depth] at hd; omega⟩
    have hrd' : i ∈ Region.ready .any ops L := by simpa using hrd
    exact wpAnyF_first ho hif hbf (Region.noSelect_spec hsel) (fun c a w h => absurd h (hQ _ _ _)) m L a w inv (Region.free_spec ho hf) hrd' hy hS'
      (ih.1 m _ _ w (inv.set hrd') (by simp only [Rt.depth] at hd; omega) hC' (.inr hS') h')
  | e i r ih =>
    have hd2 : ∀ (top : Bool) (n : Nat) (L : Array Bool) (a : Act) (w : World), CInv ops L → r.depth ≤ n → treeC ops f (.e i r) top L = true → wpTree P ops Q S f (.e i r) a w → i ∈ Region.ready .any ops L →
        wpOp P ops Q i (fun a' w' => (i ≠ f → S w') ∧ wpAnyF P ops Q S f n (L.setIfInBounds i true) a' w') a w := by
      intro top n L a w inv hd hC h hr
      simp only [treeC, Bool.and_eq_true] at hC
      obtain ⟨⟨_, hnil⟩, hC'⟩ := hC
      refine wpOp_mono (fun a' w' h' => ⟨h'.1, ih.1 n _ a' w' (inv.set hr) hd hC' ?_ h'.2⟩) h
      by_cases hif : i = f
      · left
        simp only [hif, Bool.or_eq_true, Bool.not_eq_true'] at hnil
        rcases hnil with hnil | hnil
        · simp at hnil
        · cases r <;> simp_all [Rt.isNil]
      · exact .inr (h'.1 hif)
    refine ⟨fun n L a w inv hd hC hS h => ?_, fun n L a w inv hd hC h hr j hj => ?_⟩
    · have hC2 := hC
      simp only [treeC, Bool.and_eq_true, Bool.not_true, Bool.false_or, decide_eq_true_eq] at hC2
      have hrd := hC2.1.1
      obtain ⟨m, rfl⟩ : ∃ m, n = m + 1 := ⟨n - 1, by simp only [Rt.depth] at hd; omega⟩
      refine ⟨fun h0 => (by rw [hrd] at h0; cases h0), fun j hj => ?_⟩
      rw [hrd] at hj
      obtain rfl : j = i := by simpa using hj
      exact hd2 true m L a w inv (by simp only [Rt.depth] at hd; omega) hC h (by rw [hrd]; simp)
    · obtain rfl : j = i := by simpa [Rt.heads] using hj
      exact hd2 false n L a w inv (by simp only [Rt.depth] at hd; omega) hC h (hr j (by simp [Rt.heads]))
  | alt x y ihx ihy =>
    have hd2 : ∀ (top : Bool) (n : Nat) (L : Array Bool) (a : Act) (w : World), CInv ops L → (Rt.alt x y).depth ≤ n + 1 → treeC ops f (.alt x y) top L = true → wpTree P ops Q S f (.alt x y) a w → (∀ i ∈ (Rt.alt x y).heads, i ∈ Region.ready .any ops L) →
        ∀ i ∈ (Rt.alt x y).heads, wpOp P ops Q i (fun a' w' => (i ≠ f → S w') ∧ wpAnyF P ops Q S f n (L.setIfInBounds i true) a' w') a w := by
      intro top n L a w inv hd hC h hr i hi
      simp only [treeC, Bool.and_eq_true] at hC
      simp only [Rt.depth] at hd
      simp only [Rt.heads] at hr hi
      rcases List.mem_append.1 hi with hi | hi
      · exact ihx.2 n L a w inv (by omega) hC.1.2 h.1 (fun k hk => hr k (List.mem_append_left _ hk)) i hi
      · exact ihy.2 n L a w inv (by omega) hC.2 h.2 (fun k hk => hr k (List.mem_append_right _ hk)) i hi
    refine ⟨fun n L a w inv hd hC hS h => ?_, fun n L a w inv hd hC h hr => hd2 false n L a w inv hd hC h hr⟩
    have hC2 := hC
    simp only [treeC, Bool.and_eq_true, Bool.not_true, Bool.false_or, decide_eq_true_eq, Bool.not_eq_true'] at hC2
    obtain ⟨⟨⟨hrd, hne⟩, _⟩, _⟩ := hC2
    have hdp : 0 < (Rt.alt x y).depth := by
      rcases Nat.eq_zero_or_pos (Rt.alt x y).depth with h0 | h0
      · exfalso
        simp only [Rt.depth] at h0
        have hx : ∀ t : Rt, t.depth = 0 → t.heads = [] := by
          intro t
          induction t with
          | nil => intro _; rfl
          | s i r _ => intro h; simp [Rt.depth] at h
          | e i r _ => intro h; simp [Rt.depth] at h
          | alt a b iha ihb => intro h; simp only [Rt.depth] at h; simp [Rt.heads, iha (by omega), ihb (by omega)]
        rw [hx x (by omega), hx y (by omega)] at hne
        simp at hne
      · exact h0
    obtain ⟨m, rfl⟩ : ∃ m, n = m + 1 := ⟨n - 1, by omega⟩
    refine ⟨fun h0 => ?_, fun j hj => ?_⟩
    · rw [hrd] at h0; rw [h0] at hne; simp at hne
    · exact hd2 true m L a w inv hd hC h (fun i hi => by rw [hrd]; exact hi) j (by rw [hrd] at hj; exact hj)
theorem wp_region_tree {id : Nat} {a : Act} {w : World} {l : List Oper} (f : Nat) (t : Rt) (hm : P.follows .mixedOrders = true) (hB : treeB l.toArray f t = true) (hS : S (w.drewN 1))
    (h : wpTree P l.toArray (Only Q) S f t a (w.drewN 1)) : (Code.region id l.toArray true).wp P Q a w := by
  simp only [treeB, Bool.and_eq_true, Nat.ble_eq] at hB
  obtain ⟨⟨hsel, hd⟩, hC⟩ := hB
  refine wp_mono (Q := Only Q) (wp_region_any hm (wpAny_of_F (S := S) (f := f) _ _ _ _ ?_)) ?_
  · exact (wpTree_both (P := P) (Q := Only Q) (S := S) (f := f) hsel (fun _ _ _ h => h.elim) t).1 _ _ _ _ ⟨by simp, fun j oj _ hl => (by rw [getD_replicate_false] at hl; cases hl)⟩ hd hC (.inr hS) h
  · intro e a w he
    cases e <;> first | exact he | exact he.elim
end

/-- a region whose order is drawn, by the tree t, under S; the operation f comes last -/
def TF (P : Program) (N : Nat) (l : List Oper) (Q : Exit → Act → World → Prop) (S : World → Prop) (f : Nat) (t : Rt) (σ : Store) (w : World) : Prop :=
  ∀ a, Rep N σ a → wpTree P l.toArray (Only Q) S f t a w
def TreeK (P : Program) (l : List Oper) (Q : Exit → Act → World → Prop) (S : World → Prop) (f i : Nat) (t : Rt) (a : Act) (w : World) : Prop := (i ≠ f → S w) ∧ wpTree P l.toArray (Only Q) S f t a w
section
variable {P : Program} {N : Nat} {Q : Exit → Act → World → Prop} {S : World → Prop} {σ : Store} {w : World} {l : List Oper} {f : Nat}
theorem T.regionF (S : World → Prop) {id : Nat} (f : Nat) (t : Rt) (hm : P.follows .mixedOrders = true) (hB : treeB l.toArray f t = true) (hS : S (w.drewN 1)) (h : TF P N l Q S f t σ (w.drewN 1)) : T P N (.region id l.toArray true) Q σ w := by
  unfold T
  exact fun a ha => wp_region_tree (S := S) f t hm hB hS (h a ha)
/-- .. where all that stands stays, until the last operation -/
theorem T.regionE (id : Nat) (f : Nat) (t : Rt) (hm : P.follows .mixedOrders = true) (hB : treeB l.toArray f t = true) (h : TF P N l Q (fun w' => Ext w w') f t σ (w.drewN 1)) : T P N (.region id l.toArray true) Q σ w :=
  T.regionF _ f t hm hB (ext_drewN w 1) h
theorem TF.nil (h : G N .normal Q σ w) : TF P N l Q S f .nil σ w := by
  unfold G at h
  exact fun a ha => h a ha
theorem TF.s {i : Nat} {t : Rt} {d : Nat} {op : Op} {ty : TypeId} {pos : String} {af : Array Edge} {v : Value} (hi : pick1 l i = some ⟨some d, op, ty, pos, af, none⟩)
    (h : ∀ w', S w' → Ev P σ w'.heap ⟨some d, op, ty, pos, af, none⟩ v) (hd : Nat.blt d N = true) (k : TF P N l Q S f t ((d, v) :: σ) w) : TF P N l Q S f (.s i t) σ w := fun a ha =>
  ⟨_, v, pick_at hi, .inl ⟨by simp [Region.wanted], fun w' hw' => by have := h w' hw'; unfold Ev at this; exact this _ w' ha.agree rfl⟩, k _ (ha.put hd v)⟩
theorem TF.e {i : Nat} {t : Rt} {o : Oper} (hi : pick1 l i = some o) (h : TL P N .seq l.toArray (Only (Exit.then (TreeK P l Q S f i t) Q)) [o] σ w) : TF P N l Q S f (.e i t) σ w := fun a ha => by
  unfold TL at h
  exact wpOp_of_wpList (pick_at hi) (h a ha)
theorem TF.alt {x y : Rt} (hx : TF P N l Q S f x σ w) (hy : TF P N l Q S f y σ w) : TF P N l Q S f (.alt x y) σ w := fun a ha => ⟨hx a ha, hy a ha⟩
theorem G.tree {i : Nat} {t : Rt} (hif : Nat.beq i f = false) (hS : S w) (h : TF P N l Q S f t σ w) : G N .normal (Exit.then (TreeK P l Q S f i t) Q) σ w := by
  unfold G
  exact fun a ha => ⟨fun _ => hS, h a ha⟩
theorem G.treeEnd {i : Nat} {t : Rt} (hif : Nat.beq i f = true) (h : TF P N l Q S f t σ w) : G N .normal (Exit.then (TreeK P l Q S f i t) Q) σ w := by
  unfold G
  exact fun a ha => ⟨fun hne => absurd (Nat.eq_of_beq_eq_true hif) hne, h a ha⟩
end
attribute [irreducible] TF TreeK
end Go.Eng
