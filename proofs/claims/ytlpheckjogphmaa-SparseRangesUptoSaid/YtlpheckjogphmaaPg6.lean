/- The engine: a range over a map that the loop does not write, by frames: the entries come in whatever order. The types and functions of this translation, as the engine asks for them. The map types of this translation. The struct types of this translation. -/
import Derived.Test.YtlpheckjogphmaaPg5
import Derived.Laws.IdiomRangeMap
import Derived.Test.YtlpheckjogphmaaProg
import Derived.Test.YtlpheckjogphmaaPg2
import Derived.Test.YtlpheckjogphmaaPg3
set_option linter.unusedVariables false
set_option linter.unusedSimpArgs false
set_option linter.unusedSectionVars false
namespace Go.Eng
open Go Go.RowKit

theorem run_getObj_o {P : Program} {w : World} {r : Nat} {o : Obj} (h : w.heap[r]? = some o) (hc : mapO o = true) : (getObj r).run P w = .ok o w := by
  cases o <;> first | cases hc; done | simp [getObj, Sem.run, h]
theorem run_setObj_o {P : Program} {w : World} {r : Nat} {o : Obj} (o' : Obj) (h : w.heap[r]? = some o) (hc : mapO o = true) : (setObj r o').run P w = .ok () (w.putObj r o') := by
  cases o <;> first | cases hc; done | simp [setObj, Sem.run, h, putObj_eq]
/-- a walk over a map: what it has handed out, in order, and what is left -/
def dpIt {K V : Type} (f : K → Value) (g : V → Value) (r b : Nat) (l done todo : List (K × V)) : DP := ⟨fun H => ∃ (es : Array MapEntry) (c : Nat) (E T : List MapEntry), H[b]? = some (.map es c) ∧ MpR f g es c l ∧ H[r]? = some (.mapIter (some b) c (E.map (·.born)).toArray c) ∧ (E ++ T).Perm es.toList ∧
    E.map (fun e => (e.key, e.val)) = done.map (fun p => (f p.1, g p.2)) ∧ T.map (fun e => (e.key, e.val)) = todo.map (fun p => (f p.1, g p.2)), fun k => k = r ∨ k = b,
  fun H k h e => by
    obtain ⟨es, c, E, T, h1, _, h2, _⟩ := h
    rcases e with rfl | rfl
    · exact (Array.getElem?_eq_some_iff.1 h2).1
    · exact (Array.getElem?_eq_some_iff.1 h1).1,
  fun H H' hd h => by
    obtain ⟨es, c, E, T, h1, h2, h3, h4⟩ := h
    exact ⟨es, c, E, T, (hd.maps b _ h1 rfl (.inr rfl)).trans h1, h2, (hd.maps r _ h3 rfl (.inl rfl)).trans h3, h4⟩⟩
section
variable {P : Program} {N : Fm} {ops : Array Oper} {Q : Exit → Act → World → Prop} {rest : List Oper} {σ : Store} {d : Tmp} {t : TypeId} {pos : String} {af : Array Edge} {S : Nat → Prop} {w0 w w' : World} {L : List VB} {D : List DP} {gd : Option (Nat × Bool)} {do_ : Option Tmp}
variable {K V : Type} [DecidableEq K] {f : K → Value} {g : V → Value} {r b : Nat} {l done todo : List (K × V)}
/-- a block that is none of cells written anew -/
theorem Fr.putO {x y : DP} {o o' : Obj} (hF : Fr w0 w L (x :: D) S) (ho : w.heap[r]? = some o) (hc : o.isCells = false) (hb : w0.heap.size ≤ r ∨ S r) (hfree : ∀ x ∈ D, ¬ x.fp r) (hy : y.p (w.putObj r o').heap) (hyL : ∀ v ∈ L, ¬ y.fp v.b) :
    Fr w0 (w.putObj r o') L (y :: D) S := by
  have hne : ∀ v ∈ L, v.b ≠ r := fun v hv e => by
    have h1 := (hF.vars v hv).2
    unfold Vr at h1
    rw [e, ho] at h1
    cases h1
    cases hc
  have hother : ∀ k, k ≠ r → (w.putObj r o').heap[k]? = w.heap[k]? := fun k hk => World.putObj_heap_other hk
  have hsize : (w.putObj r o').heap.size = w.heap.size := World.putObj_size
  refine ⟨⟨hF.exs.os, hF.exs.tape, hF.exs.output, by rw [hsize]; exact hF.exs.size, fun k hk hs => ?_⟩, fun v hv => ⟨(hF.vars v hv).1, ?_⟩, hF.dist, fun x hx => ?_, fun v hv x hx => ?_⟩
  · rw [hother k (fun e => by subst e; exact hb.elim (fun h => absurd h (Nat.not_le_of_gt hk)) hs)]
    exact hF.exs.block k hk hs
  · have h1 := (hF.vars v hv).2
    unfold Vr at h1 ⊢
    rw [hother _ (hne v hv)]; exact h1
  · rcases List.mem_cons.1 hx with rfl | hx
    · exact hy
    · refine x.st _ _ ⟨Nat.le_of_eq hsize.symm, fun k cs t y hk _ => hother k fun e => ?_, fun k o hk _ hf => hother k fun e => hfree x hx (e ▸ hf)⟩ (hF.data x (List.mem_cons_of_mem _ hx))
      rw [e, ho] at hk
      cases hk
      cases hc
  · rcases List.mem_cons.1 hx with rfl | hx
    · exact hyL v hv
    · exact hF.apart v hv x (List.mem_cons_of_mem _ hx)
theorem TL.rangeFr (hF : Fr w0 w L D S) {x : Operand} {ty k e : TypeId} [hT : UMap P ty k e] (hx : look σ x = some (.map (some b))) (hm : dpMp f g b l ∈ D) (hd : Nat.blt d N.n = true)
    (K' : ∀ w' r, r = w.heap.size → Fr w0 w' L (dpIt f g r b l [] l :: D) S → TL P N .seq ops Q rest ((d, .pointer (some ⟨r, 0, none⟩)) :: σ) w') :
    TL P N .seq ops Q (⟨some d, .range ty x, t, pos, af, none⟩ :: rest) σ w := by
  obtain ⟨es, c, hb, hr⟩ := hF.mp hm
  have hlt := (Array.getElem?_eq_some_iff.1 hb).1
  refine TL.op (w' := w.alloc (.mapIter (some b) c #[] c)) (fun ρ hρ => ?_) hd (K' _ _ rfl ?_)
  · simp [execOp, hρ x _ hx, run_range_map w ty k e b es c hT.out hb]
  · refine (hF.exts (ext_alloc _ _)).add _ ?_ ?_
    · unfold dpIt
      exact ⟨es, c, [], es.toList, ((ext_alloc w _).block b hlt).trans hb, hr, heap_alloc .., List.Perm.refl _, rfl, hr.map⟩
    · intro v hv hk
      unfold dpIt at hk
      rcases hk with hk | hk
      · have h1 := (hF.vars v hv).2.lt
        omega
      · exact hF.apart v hv _ hm (by unfold dpMp; exact hk)
theorem perm_split {α β : Type} {F : α → β} {e : α} {T : List α} (he : e ∈ T) {γ : Type} {G : γ → β} {todo : List γ} (h : T.map F = todo.map G) :
    ∃ T1 T2 t1 p t2, T = T1 ++ e :: T2 ∧ todo = t1 ++ p :: t2 ∧ F e = G p ∧ (T1 ++ T2).map F = (t1 ++ t2).map G := by
  obtain ⟨T1, T2, rfl⟩ := List.append_of_mem he
  rw [List.map_append, List.map_cons] at h
  obtain ⟨t1, t2', rfl, h1, h2⟩ := List.map_eq_append_iff.1 h.symm
  obtain ⟨p, t2, rfl, h3, h4⟩ := List.map_eq_cons_iff.1 h2
  exact ⟨T1, T2, t1, p, t2, rfl, rfl, h3.symm, by rw [List.map_append, List.map_append, h1, h4]⟩
theorem run_choose (n : Nat) (hn : 0 < n) (w : World) : ∃ (j : Nat) (k : Nat), j < n ∧ (choose (.mapNext n)).run P w = .ok j (w.drewN k) := by
  by_cases hf : n ≤ 1
  · exact ⟨0, 0, hn, by simp [choose, Sem.run, Question.forced, hf]; rfl⟩
  · have h : ∃ j, j < n ∧ (choose (.mapNext n)).run P w = .ok j w.drew := ⟨_, Nat.mod_lt _ hn, by
      simp only [choose, Sem.run, Question.forced, decide_eq_true_eq, hf, if_false, Question.cut]
      rfl⟩
    obtain ⟨j, h1, h2⟩ := h
    exact ⟨j, 1, h1, h2⟩
theorem TL.nextFr (hF : Fr w0 w L (dpIt f g r b l done todo :: D) S) (hr : w0.heap.size ≤ r ∨ S r) (hfree : ∀ x ∈ D, ¬ x.fp r) {x : Operand} (hx : look σ x = some (.pointer (some ⟨r, 0, none⟩))) (hd : Nat.blt d N.n = true)
    (h0 : todo = [] → ∀ w', Fr w0 w' L (dpIt f g r b l done [] :: D) S → TL P N .seq ops Q rest ((d, .tuple #[.bool false]) :: σ) w')
    (h1 : ∀ p todo' w', todo.Perm (p :: todo') → Fr w0 w' L (dpIt f g r b l (done ++ [p]) todo' :: D) S → TL P N .seq ops Q rest ((d, .tuple #[.bool true, f p.1, g p.2]) :: σ) w') :
    TL P N .seq ops Q (⟨some d, .next x false, t, pos, af, none⟩ :: rest) σ w := by
  have hI := hF.data _ (List.mem_cons_self ..)
  unfold dpIt at hI
  obtain ⟨es, c, E, T, hb, hR, hr0, hp, hE, hT⟩ := hI
  have hnd : ((E ++ T).map (·.born)).Nodup := (hp.map (·.born)).nodup_iff.2 hR.nodup
  rw [List.map_append] at hnd
  have hdis := (List.nodup_append.1 hnd).2.2
  have hl : (es.filter fun e => !(E.map (·.born)).toArray.contains e.born).toList.Perm T := by
    rw [Array.toList_filter]
    refine (hp.symm.filter _).trans ?_
    rw [List.filter_append]
    have e1 : E.filter (fun e => !(E.map (·.born)).toArray.contains e.born) = [] := by
      rw [List.filter_eq_nil_iff]
      intro y hy
      simp only [Bool.not_eq_true', Bool.not_eq_false, List.contains_toArray, List.contains_iff_mem]
      exact List.mem_map.2 ⟨y, hy, rfl⟩
    have e2 : T.filter (fun e => !(E.map (·.born)).toArray.contains e.born) = T := by
      rw [List.filter_eq_self]
      intro y hy
      cases hc : (E.map (·.born)).toArray.contains y.born with
      | false => rfl
      | true =>
        exfalso
        simp only [List.contains_toArray, List.contains_iff_mem] at hc
        exact hdis _ hc _ (List.mem_map.2 ⟨y, hy, rfl⟩) rfl
    rw [e1, e2]
    exact List.Perm.refl _
  generalize hLd : (es.filter fun e => !(E.map (·.born)).toArray.contains e.born) = Lf at hl
  have htest : (!(E.map (·.born)).toArray.isEmpty && !es.isEmpty && es.all (fun x => decide (x.born ≥ c))) = false := next_test_false _ es c c hR.born (Nat.le_refl _)
  have hmem : ∀ y ∈ Lf, y.born < c := fun y hy => by
    have : y ∈ T := hl.mem_iff.1 (Array.mem_toList_iff.2 hy)
    exact hR.born y (hp.mem_iff.1 (List.mem_append_right _ this))
  have e1 : Lf.filter (fun y => decide (y.born < c)) = Lf := Array.filter_eq_self.2 (fun y hy => by simpa using hmem y hy)
  have e2 : Lf.filter (fun y => decide (y.born ≥ c)) = #[] := by
    rw [Array.filter_eq_empty_iff]
    intro y hy
    have := hmem y hy
    simp
    omega
  rcases Nat.eq_zero_or_pos Lf.size with h2 | h2
  · have hLe : Lf = #[] := Array.eq_empty_of_size_eq_zero h2
    have hT0 : T = [] := by
      have h3 := hl.length_eq
      rw [hLe] at h3
      exact List.length_eq_zero_iff.1 h3.symm
    have ht0 : todo = [] := by
      rw [hT0] at hT
      exact List.map_eq_nil_iff.1 hT.symm
    subst ht0
    refine TL.op (w' := w) (fun ρ hρ => ?_) hd (h0 rfl w hF)
    simp only [execOp, hρ x _ hx, Instr.next, Sem.run_bind, run_getObj_o hr0 rfl, run_getObj_o hb rfl, Result.andThen_ok, htest, Bool.false_eq_true, if_false, hLd, e1, e2, hLe]
    simp [choose, Sem.run, Question.forced, Result.andThen]
  · have hne : Lf.isEmpty = false := by simp [Array.isEmpty]; intro h; rw [h] at h2; simp at h2
    obtain ⟨j, k, hj, hrun⟩ := run_choose (P := P) Lf.size h2 w
    have hmT : Lf[j] ∈ T := hl.mem_iff.1 (by simp)
    obtain ⟨T1, T2, t1, p, t2, rfl, rfl, h3, h4⟩ := perm_split hmT hT
    simp only [Prod.mk.injEq] at h3
    have hF1 := hF.exts (ext_drewN w k)
    have hr1 : (w.drewN k).heap[r]? = some (.mapIter (some b) c (E.map (·.born)).toArray c) := hr0
    have hrb : b ≠ r := fun e => by rw [e, hr0] at hb; cases hb
    refine TL.op (w' := (w.drewN k).putObj r (.mapIter (some b) c ((E.map (·.born)).toArray.push Lf[j].born) c)) (v := .tuple #[.bool true, f p.1, g p.2]) (fun ρ hρ => ?_) hd (h1 p (t1 ++ t2) _ List.perm_middle (hF1.putO hr1 rfl hr hfree ?_ ?_))
    · simp only [execOp, hρ x _ hx, Instr.next, Sem.run_bind, run_getObj_o hr0 rfl, run_getObj_o hb rfl, Result.andThen_ok, htest, Bool.false_eq_true, if_false, hLd, e1, e2, hne, Array.append_empty, Array.empty_append, Array.size_map, hrun, Array.getElem?_map, Array.getElem?_eq_getElem hj, Option.map_some, run_setObj_o _ hr1 rfl, h3.1, h3.2]
      rfl
    · unfold dpIt
      refine ⟨es, c, E ++ [Lf[j]], T1 ++ T2, ?_, hR, ?_, ?_, ?_, h4⟩
      · rw [World.putObj_heap_other hrb]; exact hb
      · rw [World.putObj_heap_same (Array.getElem?_eq_some_iff.1 hr1).1]
        simp
      · refine List.Perm.trans ?_ hp
        rw [List.append_assoc]
        exact List.Perm.append_left E (show (Lf[j] :: (T1 ++ T2)).Perm (T1 ++ Lf[j] :: T2) from List.perm_middle.symm)
      · simp [hE, h3.1, h3.2]
    · intro v hv hk
      exact hF.apart v hv _ (List.mem_cons_self ..) (by unfold dpIt at hk ⊢; exact hk)
theorem ev_entry (hF : Fr w0 w L D S) {p : K × V} (hm : dpIt f g r b l (done ++ [p]) todo ∈ D) {x : Operand} (hx : look σ x = some (.pointer (some ⟨r, 0, none⟩))) : Ev P σ w.heap ⟨do_, .entry x, t, pos, af, gd⟩ (.tuple #[f p.1, g p.2]) := by
  have hI := hF.data _ hm
  unfold dpIt at hI
  obtain ⟨es, c, E, T, hb, hR, hr0, hp, hE, hT⟩ := hI
  rw [List.map_append] at hE
  obtain ⟨E1, E2, rfl, h1, h2⟩ := List.map_eq_append_iff.1 hE
  obtain ⟨e, E3, rfl, h3, h4⟩ := List.map_eq_cons_iff.1 h2
  rw [List.map_eq_nil_iff.1 h4] at hp hr0
  simp only [Prod.mk.injEq] at h3
  have hm : e ∈ es.toList := hp.mem_iff.1 (by simp)
  have hf : es.find? (fun x => x.born == e.born) = some e := by rw [← Array.find?_toList]; exact find_born e es.toList hR.nodup hm
  unfold Ev
  intro ρ w1 hρ hw
  rw [← hw] at hb hr0
  have hbk : ((E1 ++ [e]).map (·.born)).toArray.back? = some e.born := by simp
  simp only [execOp, hρ x _ hx, Instr.entry, Sem.run_bind, run_getObj_o hr0 rfl, run_getObj_o hb rfl, Result.andThen_ok, hbk, bne_self_eq_false, Bool.false_eq_true, if_false, hf]
  simp [h3.1, h3.2]
end
attribute [irreducible] dpIt

end Go.Eng

namespace Go.Proofs.Ytlpheckjogphmaa
open Go Go.Eng Go.Proofs
instance : USize Try.prog 1 (.nilFunc) 1 8 := ⟨by kernel_rfl⟩
instance : UOne Try.prog 1 := ⟨⟨_, Try.underlying1, rfl⟩⟩
instance : USize Try.prog 2 (.int .i64 0) 1 8 := ⟨by kernel_rfl⟩
instance : UInt Try.prog 2 .i64 := ⟨Try.underlying2⟩
instance : UOne Try.prog 2 := ⟨⟨_, Try.underlying2, rfl⟩⟩
instance : USize Try.prog 3 (.int .i64 0) 1 8 := ⟨by kernel_rfl⟩
instance : UInt Try.prog 3 .i64 := ⟨Try.underlying3⟩
instance : UOne Try.prog 3 := ⟨⟨_, Try.underlying3, rfl⟩⟩
instance : USize Try.prog 4 (.bool false) 1 1 := ⟨by kernel_rfl⟩
instance : UBool Try.prog 4 := ⟨Try.underlying4⟩
instance : UOne Try.prog 4 := ⟨⟨_, Try.underlying4, rfl⟩⟩
instance : USize Try.prog 5 (.int .u8 0) 1 1 := ⟨by kernel_rfl⟩
instance : UInt Try.prog 5 .u8 := ⟨Try.underlying5⟩
instance : UOne Try.prog 5 := ⟨⟨_, Try.underlying5, rfl⟩⟩
instance : USize Try.prog 6 (.int .u8 0) 1 1 := ⟨by kernel_rfl⟩
instance : UInt Try.prog 6 .u8 := ⟨Try.underlying6⟩
instance : UOne Try.prog 6 := ⟨⟨_, Try.underlying6, rfl⟩⟩
instance : USize Try.prog 7 (.agg #[.int .i64 0, .int .i64 0, .bool false, .int .u8 0]) 4 24 := ⟨by kernel_rfl⟩
instance : UAgg Try.prog 7 := ⟨⟨_, Try.underlying7⟩⟩
instance : UField Try.prog 7 0 2 0 := ⟨⟨_, _, Try.underlying7, rfl, rfl, rfl, by kernel_rfl⟩⟩
instance : UField Try.prog 7 1 3 1 := ⟨⟨_, _, Try.underlying7, rfl, rfl, rfl, by kernel_rfl⟩⟩
instance : UField Try.prog 7 2 4 2 := ⟨⟨_, _, Try.underlying7, rfl, rfl, rfl, by kernel_rfl⟩⟩
instance : UField Try.prog 7 3 6 3 := ⟨⟨_, _, Try.underlying7, rfl, rfl, rfl, by kernel_rfl⟩⟩
instance : USize Try.prog 8 (.agg #[.int .i64 0, .int .i64 0, .bool false, .int .u8 0]) 4 24 := ⟨by kernel_rfl⟩
instance : UAgg Try.prog 8 := ⟨⟨_, Try.underlying8⟩⟩
instance : UField Try.prog 8 0 2 0 := ⟨⟨_, _, Try.underlying8, rfl, rfl, rfl, by kernel_rfl⟩⟩
instance : UField Try.prog 8 1 3 1 := ⟨⟨_, _, Try.underlying8, rfl, rfl, rfl, by kernel_rfl⟩⟩
instance : UField Try.prog 8 2 4 2 := ⟨⟨_, _, Try.underlying8, rfl, rfl, rfl, by kernel_rfl⟩⟩
instance : UField Try.prog 8 3 6 3 := ⟨⟨_, _, Try.underlying8, rfl, rfl, rfl, by kernel_rfl⟩⟩
instance : USize Try.prog 9 (.string ⟨#[]⟩) 1 16 := ⟨by kernel_rfl⟩
instance : UOne Try.prog 9 := ⟨⟨_, Try.underlying9, rfl⟩⟩
instance : USize Try.prog 10 (.string ⟨#[]⟩) 1 16 := ⟨by kernel_rfl⟩
instance : UOne Try.prog 10 := ⟨⟨_, Try.underlying10, rfl⟩⟩
instance : USize Try.prog 11 (.string ⟨#[]⟩) 1 16 := ⟨by kernel_rfl⟩
instance : UOne Try.prog 11 := ⟨⟨_, Try.underlying11, rfl⟩⟩
instance : USize Try.prog 12 (.int .u64 0) 1 8 := ⟨by kernel_rfl⟩
instance : UInt Try.prog 12 .u64 := ⟨Try.underlying12⟩
instance : UOne Try.prog 12 := ⟨⟨_, Try.underlying12, rfl⟩⟩
instance : USize Try.prog 13 (.agg #[.string ⟨#[]⟩, .int .u64 0]) 2 24 := ⟨by kernel_rfl⟩
instance : UAgg Try.prog 13 := ⟨⟨_, Try.underlying13⟩⟩
instance : UField Try.prog 13 0 9 0 := ⟨⟨_, _, Try.underlying13, rfl, rfl, rfl, by kernel_rfl⟩⟩
instance : UField Try.prog 13 1 12 1 := ⟨⟨_, _, Try.underlying13, rfl, rfl, rfl, by kernel_rfl⟩⟩
instance : USize Try.prog 14 (.agg #[.string ⟨#[]⟩, .int .u64 0]) 2 24 := ⟨by kernel_rfl⟩
instance : UAgg Try.prog 14 := ⟨⟨_, Try.underlying14⟩⟩
instance : UField Try.prog 14 0 9 0 := ⟨⟨_, _, Try.underlying14, rfl, rfl, rfl, by kernel_rfl⟩⟩
instance : UField Try.prog 14 1 12 1 := ⟨⟨_, _, Try.underlying14, rfl, rfl, rfl, by kernel_rfl⟩⟩
instance : USize Try.prog 15 (.pointer none) 1 8 := ⟨by kernel_rfl⟩
instance : UOne Try.prog 15 := ⟨⟨_, Try.underlying15, rfl⟩⟩
instance : USize Try.prog 16 (.pointer none) 1 8 := ⟨by kernel_rfl⟩
instance : UOne Try.prog 16 := ⟨⟨_, Try.underlying16, rfl⟩⟩
instance : USize Try.prog 17 (.pointer none) 1 8 := ⟨by kernel_rfl⟩
instance : UOne Try.prog 17 := ⟨⟨_, Try.underlying17, rfl⟩⟩
instance : USize Try.prog 18 (.agg #[.pointer none]) 1 8 := ⟨by kernel_rfl⟩
instance : UAgg Try.prog 18 := ⟨⟨_, Try.underlying18⟩⟩
instance : UField Try.prog 18 0 17 0 := ⟨⟨_, _, Try.underlying18, rfl, rfl, rfl, by kernel_rfl⟩⟩
instance : USize Try.prog 19 (.agg #[.pointer none]) 1 8 := ⟨by kernel_rfl⟩
instance : UAgg Try.prog 19 := ⟨⟨_, Try.underlying19⟩⟩
instance : UField Try.prog 19 0 17 0 := ⟨⟨_, _, Try.underlying19, rfl, rfl, rfl, by kernel_rfl⟩⟩
instance : USize Try.prog 20 (.nilIface) 1 16 := ⟨by kernel_rfl⟩
instance : UOne Try.prog 20 := ⟨⟨_, Try.underlying20, rfl⟩⟩
instance : USize Try.prog 21 (.int .i32 0) 1 4 := ⟨by kernel_rfl⟩
instance : UInt Try.prog 21 .i32 := ⟨Try.underlying21⟩
instance : UOne Try.prog 21 := ⟨⟨_, Try.underlying21, rfl⟩⟩
instance : USize Try.prog 22 (.slice none 0 0) 1 24 := ⟨by kernel_rfl⟩
instance : USlice Try.prog 22 42 := ⟨Try.underlying22⟩
instance : UOne Try.prog 22 := ⟨⟨_, Try.underlying22, rfl⟩⟩
instance : USize Try.prog 23 (.agg #[.int .i64 0, .int .i64 0, .slice none 0 0]) 3 40 := ⟨by kernel_rfl⟩
instance : UAgg Try.prog 23 := ⟨⟨_, Try.underlying23⟩⟩
instance : UField Try.prog 23 0 3 0 := ⟨⟨_, _, Try.underlying23, rfl, rfl, rfl, by kernel_rfl⟩⟩
instance : UField Try.prog 23 1 3 1 := ⟨⟨_, _, Try.underlying23, rfl, rfl, rfl, by kernel_rfl⟩⟩
instance : UField Try.prog 23 2 22 2 := ⟨⟨_, _, Try.underlying23, rfl, rfl, rfl, by kernel_rfl⟩⟩
instance : USize Try.prog 24 (.agg #[.int .i64 0, .int .i64 0, .slice none 0 0]) 3 40 := ⟨by kernel_rfl⟩
instance : UAgg Try.prog 24 := ⟨⟨_, Try.underlying24⟩⟩
instance : UField Try.prog 24 0 3 0 := ⟨⟨_, _, Try.underlying24, rfl, rfl, rfl, by kernel_rfl⟩⟩
instance : UField Try.prog 24 1 3 1 := ⟨⟨_, _, Try.underlying24, rfl, rfl, rfl, by kernel_rfl⟩⟩
instance : UField Try.prog 24 2 22 2 := ⟨⟨_, _, Try.underlying24, rfl, rfl, rfl, by kernel_rfl⟩⟩
instance : USize Try.prog 25 (.slice none 0 0) 1 24 := ⟨by kernel_rfl⟩
instance : USlice Try.prog 25 44 := ⟨Try.underlying25⟩
instance : UOne Try.prog 25 := ⟨⟨_, Try.underlying25, rfl⟩⟩
instance : USize Try.prog 26 (.pointer none) 1 8 := ⟨by kernel_rfl⟩
instance : UOne Try.prog 26 := ⟨⟨_, Try.underlying26, rfl⟩⟩
instance : USize Try.prog 27 (.int .i64 0) 1 8 := ⟨by kernel_rfl⟩
instance : UInt Try.prog 27 .i64 := ⟨Try.underlying27⟩
instance : UOne Try.prog 27 := ⟨⟨_, Try.underlying27, rfl⟩⟩
instance : USize Try.prog 29 (.nilFunc) 1 8 := ⟨by kernel_rfl⟩
instance : UOne Try.prog 29 := ⟨⟨_, Try.underlying29, rfl⟩⟩
instance : USize Try.prog 30 (.nilFunc) 1 8 := ⟨by kernel_rfl⟩
instance : UOne Try.prog 30 := ⟨⟨_, Try.underlying30, rfl⟩⟩
instance : USize Try.prog 31 (.nilFunc) 1 8 := ⟨by kernel_rfl⟩
instance : UOne Try.prog 31 := ⟨⟨_, Try.underlying31, rfl⟩⟩
instance : USize Try.prog 32 (.nilFunc) 1 8 := ⟨by kernel_rfl⟩
instance : UOne Try.prog 32 := ⟨⟨_, Try.underlying32, rfl⟩⟩
instance : USize Try.prog 33 (.slice none 0 0) 1 24 := ⟨by kernel_rfl⟩
instance : USlice Try.prog 33 46 := ⟨Try.underlying33⟩
instance : UOne Try.prog 33 := ⟨⟨_, Try.underlying33, rfl⟩⟩
instance : USize Try.prog 34 (.nilFunc) 1 8 := ⟨by kernel_rfl⟩
instance : UOne Try.prog 34 := ⟨⟨_, Try.underlying34, rfl⟩⟩
instance : USize Try.prog 35 (.nilFunc) 1 8 := ⟨by kernel_rfl⟩
instance : UOne Try.prog 35 := ⟨⟨_, Try.underlying35, rfl⟩⟩
instance : USize Try.prog 36 (.nilFunc) 1 8 := ⟨by kernel_rfl⟩
instance : UOne Try.prog 36 := ⟨⟨_, Try.underlying36, rfl⟩⟩
instance : USize Try.prog 37 (.nilFunc) 1 8 := ⟨by kernel_rfl⟩
instance : UOne Try.prog 37 := ⟨⟨_, Try.underlying37, rfl⟩⟩
instance : USize Try.prog 38 (.nilFunc) 1 8 := ⟨by kernel_rfl⟩
instance : UOne Try.prog 38 := ⟨⟨_, Try.underlying38, rfl⟩⟩
instance : USize Try.prog 39 (.nilFunc) 1 8 := ⟨by kernel_rfl⟩
instance : UOne Try.prog 39 := ⟨⟨_, Try.underlying39, rfl⟩⟩
instance : USize Try.prog 40 (.slice none 0 0) 1 24 := ⟨by kernel_rfl⟩
instance : USlice Try.prog 40 91 := ⟨Try.underlying40⟩
instance : UOne Try.prog 40 := ⟨⟨_, Try.underlying40, rfl⟩⟩
instance : USize Try.prog 41 (.agg #[.bool false, .slice none 0 0]) 2 32 := ⟨by kernel_rfl⟩
instance : UAgg Try.prog 41 := ⟨⟨_, Try.underlying41⟩⟩
instance : UField Try.prog 41 0 4 0 := ⟨⟨_, _, Try.underlying41, rfl, rfl, rfl, by kernel_rfl⟩⟩
instance : UField Try.prog 41 1 40 1 := ⟨⟨_, _, Try.underlying41, rfl, rfl, rfl, by kernel_rfl⟩⟩
instance : USize Try.prog 42 (.agg #[.bool false, .slice none 0 0]) 2 32 := ⟨by kernel_rfl⟩
instance : UAgg Try.prog 42 := ⟨⟨_, Try.underlying42⟩⟩
instance : UField Try.prog 42 0 4 0 := ⟨⟨_, _, Try.underlying42, rfl, rfl, rfl, by kernel_rfl⟩⟩
instance : UField Try.prog 42 1 40 1 := ⟨⟨_, _, Try.underlying42, rfl, rfl, rfl, by kernel_rfl⟩⟩
instance : USize Try.prog 43 (.agg #[.int .i64 0, .int .i64 0, .int .i64 0, .bool false, .slice none 0 0]) 5 56 := ⟨by kernel_rfl⟩
instance : UAgg Try.prog 43 := ⟨⟨_, Try.underlying43⟩⟩
instance : UField Try.prog 43 0 3 0 := ⟨⟨_, _, Try.underlying43, rfl, rfl, rfl, by kernel_rfl⟩⟩
instance : UField Try.prog 43 1 3 1 := ⟨⟨_, _, Try.underlying43, rfl, rfl, rfl, by kernel_rfl⟩⟩
instance : UField Try.prog 43 2 3 2 := ⟨⟨_, _, Try.underlying43, rfl, rfl, rfl, by kernel_rfl⟩⟩
instance : UField Try.prog 43 3 42 3 := ⟨⟨_, _, Try.underlying43, rfl, rfl, rfl, by kernel_rfl⟩⟩
instance : USize Try.prog 44 (.agg #[.int .i64 0, .int .i64 0, .int .i64 0, .bool false, .slice none 0 0]) 5 56 := ⟨by kernel_rfl⟩
instance : UAgg Try.prog 44 := ⟨⟨_, Try.underlying44⟩⟩
instance : UField Try.prog 44 0 3 0 := ⟨⟨_, _, Try.underlying44, rfl, rfl, rfl, by kernel_rfl⟩⟩
instance : UField Try.prog 44 1 3 1 := ⟨⟨_, _, Try.underlying44, rfl, rfl, rfl, by kernel_rfl⟩⟩
instance : UField Try.prog 44 2 3 2 := ⟨⟨_, _, Try.underlying44, rfl, rfl, rfl, by kernel_rfl⟩⟩
instance : UField Try.prog 44 3 42 3 := ⟨⟨_, _, Try.underlying44, rfl, rfl, rfl, by kernel_rfl⟩⟩
instance : USize Try.prog 45 (.agg #[.int .i64 0, .int .i64 0, .bool false, .slice none 0 0]) 4 48 := ⟨by kernel_rfl⟩
instance : UAgg Try.prog 45 := ⟨⟨_, Try.underlying45⟩⟩
instance : UField Try.prog 45 0 3 0 := ⟨⟨_, _, Try.underlying45, rfl, rfl, rfl, by kernel_rfl⟩⟩
instance : UField Try.prog 45 1 3 1 := ⟨⟨_, _, Try.underlying45, rfl, rfl, rfl, by kernel_rfl⟩⟩
instance : UField Try.prog 45 2 42 2 := ⟨⟨_, _, Try.underlying45, rfl, rfl, rfl, by kernel_rfl⟩⟩
instance : USize Try.prog 46 (.agg #[.int .i64 0, .int .i64 0, .bool false, .slice none 0 0]) 4 48 := ⟨by kernel_rfl⟩
instance : UAgg Try.prog 46 := ⟨⟨_, Try.underlying46⟩⟩
instance : UField Try.prog 46 0 3 0 := ⟨⟨_, _, Try.underlying46, rfl, rfl, rfl, by kernel_rfl⟩⟩
instance : UField Try.prog 46 1 3 1 := ⟨⟨_, _, Try.underlying46, rfl, rfl, rfl, by kernel_rfl⟩⟩
instance : UField Try.prog 46 2 42 2 := ⟨⟨_, _, Try.underlying46, rfl, rfl, rfl, by kernel_rfl⟩⟩
instance : USize Try.prog 47 (.nilFunc) 1 8 := ⟨by kernel_rfl⟩
instance : UOne Try.prog 47 := ⟨⟨_, Try.underlying47, rfl⟩⟩
instance : USize Try.prog 48 (.nilFunc) 1 8 := ⟨by kernel_rfl⟩
instance : UOne Try.prog 48 := ⟨⟨_, Try.underlying48, rfl⟩⟩
instance : USize Try.prog 49 (.nilFunc) 1 8 := ⟨by kernel_rfl⟩
instance : UOne Try.prog 49 := ⟨⟨_, Try.underlying49, rfl⟩⟩
instance : USize Try.prog 50 (.agg #[.int .i64 0, .slice none 0 0, .slice none 0 0, .slice none 0 0]) 4 80 := ⟨by kernel_rfl⟩
instance : UAgg Try.prog 50 := ⟨⟨_, Try.underlying50⟩⟩
instance : UField Try.prog 50 0 3 0 := ⟨⟨_, _, Try.underlying50, rfl, rfl, rfl, by kernel_rfl⟩⟩
instance : UField Try.prog 50 1 33 1 := ⟨⟨_, _, Try.underlying50, rfl, rfl, rfl, by kernel_rfl⟩⟩
instance : UField Try.prog 50 2 33 2 := ⟨⟨_, _, Try.underlying50, rfl, rfl, rfl, by kernel_rfl⟩⟩
instance : UField Try.prog 50 3 33 3 := ⟨⟨_, _, Try.underlying50, rfl, rfl, rfl, by kernel_rfl⟩⟩
instance : USize Try.prog 51 (.agg #[.int .i64 0, .slice none 0 0, .slice none 0 0, .slice none 0 0]) 4 80 := ⟨by kernel_rfl⟩
instance : UAgg Try.prog 51 := ⟨⟨_, Try.underlying51⟩⟩
instance : UField Try.prog 51 0 3 0 := ⟨⟨_, _, Try.underlying51, rfl, rfl, rfl, by kernel_rfl⟩⟩
instance : UField Try.prog 51 1 33 1 := ⟨⟨_, _, Try.underlying51, rfl, rfl, rfl, by kernel_rfl⟩⟩
instance : UField Try.prog 51 2 33 2 := ⟨⟨_, _, Try.underlying51, rfl, rfl, rfl, by kernel_rfl⟩⟩
instance : UField Try.prog 51 3 33 3 := ⟨⟨_, _, Try.underlying51, rfl, rfl, rfl, by kernel_rfl⟩⟩
instance : USize Try.prog 52 (.nilFunc) 1 8 := ⟨by kernel_rfl⟩
instance : UOne Try.prog 52 := ⟨⟨_, Try.underlying52, rfl⟩⟩
instance : USize Try.prog 53 (.nilFunc) 1 8 := ⟨by kernel_rfl⟩
instance : UOne Try.prog 53 := ⟨⟨_, Try.underlying53, rfl⟩⟩
instance : USize Try.prog 54 (.nilFunc) 1 8 := ⟨by kernel_rfl⟩
instance : UOne Try.prog 54 := ⟨⟨_, Try.underlying54, rfl⟩⟩
instance : USize Try.prog 55 (.nilFunc) 1 8 := ⟨by kernel_rfl⟩
instance : UOne Try.prog 55 := ⟨⟨_, Try.underlying55, rfl⟩⟩
instance : USize Try.prog 57 (.nilFunc) 1 8 := ⟨by kernel_rfl⟩
instance : UOne Try.prog 57 := ⟨⟨_, Try.underlying57, rfl⟩⟩
instance : USize Try.prog 58 (.nilFunc) 1 8 := ⟨by kernel_rfl⟩
instance : UOne Try.prog 58 := ⟨⟨_, Try.underlying58, rfl⟩⟩
instance : USize Try.prog 59 (.nilFunc) 1 8 := ⟨by kernel_rfl⟩
instance : UOne Try.prog 59 := ⟨⟨_, Try.underlying59, rfl⟩⟩
instance : USize Try.prog 60 (.nilFunc) 1 8 := ⟨by kernel_rfl⟩
instance : UOne Try.prog 60 := ⟨⟨_, Try.underlying60, rfl⟩⟩
instance : USize Try.prog 61 (.nilFunc) 1 8 := ⟨by kernel_rfl⟩
instance : UOne Try.prog 61 := ⟨⟨_, Try.underlying61, rfl⟩⟩
instance : USize Try.prog 62 (.nilFunc) 1 8 := ⟨by kernel_rfl⟩
instance : UOne Try.prog 62 := ⟨⟨_, Try.underlying62, rfl⟩⟩
instance : USize Try.prog 63 (.nilFunc) 1 8 := ⟨by kernel_rfl⟩
instance : UOne Try.prog 63 := ⟨⟨_, Try.underlying63, rfl⟩⟩
instance : USize Try.prog 65 (.nilFunc) 1 8 := ⟨by kernel_rfl⟩
instance : UOne Try.prog 65 := ⟨⟨_, Try.underlying65, rfl⟩⟩
instance : USize Try.prog 66 (.nilFunc) 1 8 := ⟨by kernel_rfl⟩
instance : UOne Try.prog 66 := ⟨⟨_, Try.underlying66, rfl⟩⟩
instance : USize Try.prog 67 (.nilFunc) 1 8 := ⟨by kernel_rfl⟩
instance : UOne Try.prog 67 := ⟨⟨_, Try.underlying67, rfl⟩⟩
instance : USize Try.prog 69 (.nilFunc) 1 8 := ⟨by kernel_rfl⟩
instance : UOne Try.prog 69 := ⟨⟨_, Try.underlying69, rfl⟩⟩
instance : USize Try.prog 70 (.nilFunc) 1 8 := ⟨by kernel_rfl⟩
instance : UOne Try.prog 70 := ⟨⟨_, Try.underlying70, rfl⟩⟩
instance : USize Try.prog 72 (.nilFunc) 1 8 := ⟨by kernel_rfl⟩
instance : UOne Try.prog 72 := ⟨⟨_, Try.underlying72, rfl⟩⟩
instance : USize Try.prog 73 (.nilFunc) 1 8 := ⟨by kernel_rfl⟩
instance : UOne Try.prog 73 := ⟨⟨_, Try.underlying73, rfl⟩⟩
instance : USize Try.prog 74 (.nilFunc) 1 8 := ⟨by kernel_rfl⟩
instance : UOne Try.prog 74 := ⟨⟨_, Try.underlying74, rfl⟩⟩
instance : USize Try.prog 75 (.nilFunc) 1 8 := ⟨by kernel_rfl⟩
instance : UOne Try.prog 75 := ⟨⟨_, Try.underlying75, rfl⟩⟩
instance : USize Try.prog 76 (.nilFunc) 1 8 := ⟨by kernel_rfl⟩
instance : UOne Try.prog 76 := ⟨⟨_, Try.underlying76, rfl⟩⟩
instance : USize Try.prog 77 (.nilFunc) 1 8 := ⟨by kernel_rfl⟩
instance : UOne Try.prog 77 := ⟨⟨_, Try.underlying77, rfl⟩⟩
instance : USize Try.prog 79 (.nilFunc) 1 8 := ⟨by kernel_rfl⟩
instance : UOne Try.prog 79 := ⟨⟨_, Try.underlying79, rfl⟩⟩
instance : USize Try.prog 80 (.nilFunc) 1 8 := ⟨by kernel_rfl⟩
instance : UOne Try.prog 80 := ⟨⟨_, Try.underlying80, rfl⟩⟩
instance : USize Try.prog 81 (.nilFunc) 1 8 := ⟨by kernel_rfl⟩
instance : UOne Try.prog 81 := ⟨⟨_, Try.underlying81, rfl⟩⟩
instance : USize Try.prog 82 (.nilFunc) 1 8 := ⟨by kernel_rfl⟩
instance : UOne Try.prog 82 := ⟨⟨_, Try.underlying82, rfl⟩⟩
instance : USize Try.prog 83 (.nilFunc) 1 8 := ⟨by kernel_rfl⟩
instance : UOne Try.prog 83 := ⟨⟨_, Try.underlying83, rfl⟩⟩
instance : USize Try.prog 84 (.nilFunc) 1 8 := ⟨by kernel_rfl⟩
instance : UOne Try.prog 84 := ⟨⟨_, Try.underlying84, rfl⟩⟩
instance : USize Try.prog 85 (.nilFunc) 1 8 := ⟨by kernel_rfl⟩
instance : UOne Try.prog 85 := ⟨⟨_, Try.underlying85, rfl⟩⟩
instance : USize Try.prog 86 (.nilFunc) 1 8 := ⟨by kernel_rfl⟩
instance : UOne Try.prog 86 := ⟨⟨_, Try.underlying86, rfl⟩⟩
instance : USize Try.prog 87 (.nilFunc) 1 8 := ⟨by kernel_rfl⟩
instance : UOne Try.prog 87 := ⟨⟨_, Try.underlying87, rfl⟩⟩
instance : USize Try.prog 88 (.agg #[.int .i64 0, .int .i64 0]) 2 16 := ⟨by kernel_rfl⟩
instance : UAgg Try.prog 88 := ⟨⟨_, Try.underlying88⟩⟩
instance : UField Try.prog 88 0 3 0 := ⟨⟨_, _, Try.underlying88, rfl, rfl, rfl, by kernel_rfl⟩⟩
instance : UField Try.prog 88 1 3 1 := ⟨⟨_, _, Try.underlying88, rfl, rfl, rfl, by kernel_rfl⟩⟩
instance : USize Try.prog 89 (.agg #[.int .i64 0, .int .i64 0]) 2 16 := ⟨by kernel_rfl⟩
instance : UAgg Try.prog 89 := ⟨⟨_, Try.underlying89⟩⟩
instance : UField Try.prog 89 0 3 0 := ⟨⟨_, _, Try.underlying89, rfl, rfl, rfl, by kernel_rfl⟩⟩
instance : UField Try.prog 89 1 3 1 := ⟨⟨_, _, Try.underlying89, rfl, rfl, rfl, by kernel_rfl⟩⟩
instance : USize Try.prog 90 (.nilFunc) 1 8 := ⟨by kernel_rfl⟩
instance : UOne Try.prog 90 := ⟨⟨_, Try.underlying90, rfl⟩⟩
instance : USize Try.prog 91 (.int .u64 0) 1 8 := ⟨by kernel_rfl⟩
instance : UInt Try.prog 91 .u64 := ⟨Try.underlying91⟩
instance : UOne Try.prog 91 := ⟨⟨_, Try.underlying91, rfl⟩⟩
instance : USize Try.prog 92 (.nilFunc) 1 8 := ⟨by kernel_rfl⟩
instance : UOne Try.prog 92 := ⟨⟨_, Try.underlying92, rfl⟩⟩
instance : USize Try.prog 93 (.nilFunc) 1 8 := ⟨by kernel_rfl⟩
instance : UOne Try.prog 93 := ⟨⟨_, Try.underlying93, rfl⟩⟩
instance : USize Try.prog 94 (.map none) 1 8 := ⟨by kernel_rfl⟩
instance : UOne Try.prog 94 := ⟨⟨_, Try.underlying94, rfl⟩⟩
instance : USize Try.prog 95 (.agg #[.int .i64 0, .int .i64 0, .map none]) 3 24 := ⟨by kernel_rfl⟩
instance : UAgg Try.prog 95 := ⟨⟨_, Try.underlying95⟩⟩
instance : UField Try.prog 95 0 3 0 := ⟨⟨_, _, Try.underlying95, rfl, rfl, rfl, by kernel_rfl⟩⟩
instance : UField Try.prog 95 1 3 1 := ⟨⟨_, _, Try.underlying95, rfl, rfl, rfl, by kernel_rfl⟩⟩
instance : UField Try.prog 95 2 94 2 := ⟨⟨_, _, Try.underlying95, rfl, rfl, rfl, by kernel_rfl⟩⟩
instance : USize Try.prog 96 (.agg #[.int .i64 0, .int .i64 0, .map none]) 3 24 := ⟨by kernel_rfl⟩
instance : UAgg Try.prog 96 := ⟨⟨_, Try.underlying96⟩⟩
instance : UField Try.prog 96 0 3 0 := ⟨⟨_, _, Try.underlying96, rfl, rfl, rfl, by kernel_rfl⟩⟩
instance : UField Try.prog 96 1 3 1 := ⟨⟨_, _, Try.underlying96, rfl, rfl, rfl, by kernel_rfl⟩⟩
instance : UField Try.prog 96 2 94 2 := ⟨⟨_, _, Try.underlying96, rfl, rfl, rfl, by kernel_rfl⟩⟩
instance : USize Try.prog 97 (.nilFunc) 1 8 := ⟨by kernel_rfl⟩
instance : UOne Try.prog 97 := ⟨⟨_, Try.underlying97, rfl⟩⟩
instance : USize Try.prog 98 (.nilFunc) 1 8 := ⟨by kernel_rfl⟩
instance : UOne Try.prog 98 := ⟨⟨_, Try.underlying98, rfl⟩⟩
instance : USize Try.prog 99 (.nilFunc) 1 8 := ⟨by kernel_rfl⟩
instance : UOne Try.prog 99 := ⟨⟨_, Try.underlying99, rfl⟩⟩
instance : USize Try.prog 100 (.nilFunc) 1 8 := ⟨by kernel_rfl⟩
instance : UOne Try.prog 100 := ⟨⟨_, Try.underlying100, rfl⟩⟩
instance : USize Try.prog 101 (.nilFunc) 1 8 := ⟨by kernel_rfl⟩
instance : UOne Try.prog 101 := ⟨⟨_, Try.underlying101, rfl⟩⟩
instance : USize Try.prog 102 (.nilFunc) 1 8 := ⟨by kernel_rfl⟩
instance : UOne Try.prog 102 := ⟨⟨_, Try.underlying102, rfl⟩⟩
instance : USize Try.prog 104 (.nilFunc) 1 8 := ⟨by kernel_rfl⟩
instance : UOne Try.prog 104 := ⟨⟨_, Try.underlying104, rfl⟩⟩
instance : USize Try.prog 105 (.map none) 1 8 := ⟨by kernel_rfl⟩
instance : UOne Try.prog 105 := ⟨⟨_, Try.underlying105, rfl⟩⟩
instance : USize Try.prog 106 (.nilFunc) 1 8 := ⟨by kernel_rfl⟩
instance : UOne Try.prog 106 := ⟨⟨_, Try.underlying106, rfl⟩⟩
instance : USize Try.prog 107 (.map none) 1 8 := ⟨by kernel_rfl⟩
instance : UOne Try.prog 107 := ⟨⟨_, Try.underlying107, rfl⟩⟩
instance : USize Try.prog 108 (.nilFunc) 1 8 := ⟨by kernel_rfl⟩
instance : UOne Try.prog 108 := ⟨⟨_, Try.underlying108, rfl⟩⟩
instance : USize Try.prog 109 (.nilFunc) 1 8 := ⟨by kernel_rfl⟩
instance : UOne Try.prog 109 := ⟨⟨_, Try.underlying109, rfl⟩⟩
instance : USize Try.prog 110 (.nilFunc) 1 8 := ⟨by kernel_rfl⟩
instance : UOne Try.prog 110 := ⟨⟨_, Try.underlying110, rfl⟩⟩
instance : USize Try.prog 111 (.nilFunc) 1 8 := ⟨by kernel_rfl⟩
instance : UOne Try.prog 111 := ⟨⟨_, Try.underlying111, rfl⟩⟩
instance : USize Try.prog 112 (.nilFunc) 1 8 := ⟨by kernel_rfl⟩
instance : UOne Try.prog 112 := ⟨⟨_, Try.underlying112, rfl⟩⟩
instance : USize Try.prog 113 (.nilFunc) 1 8 := ⟨by kernel_rfl⟩
instance : UOne Try.prog 113 := ⟨⟨_, Try.underlying113, rfl⟩⟩
instance : USize Try.prog 114 (.nilFunc) 1 8 := ⟨by kernel_rfl⟩
instance : UOne Try.prog 114 := ⟨⟨_, Try.underlying114, rfl⟩⟩
instance : USize Try.prog 116 (.nilFunc) 1 8 := ⟨by kernel_rfl⟩
instance : UOne Try.prog 116 := ⟨⟨_, Try.underlying116, rfl⟩⟩
instance : USize Try.prog 117 (.nilFunc) 1 8 := ⟨by kernel_rfl⟩
instance : UOne Try.prog 117 := ⟨⟨_, Try.underlying117, rfl⟩⟩
instance : USize Try.prog 118 (.nilFunc) 1 8 := ⟨by kernel_rfl⟩
instance : UOne Try.prog 118 := ⟨⟨_, Try.underlying118, rfl⟩⟩
instance : USize Try.prog 119 (.nilFunc) 1 8 := ⟨by kernel_rfl⟩
instance : UOne Try.prog 119 := ⟨⟨_, Try.underlying119, rfl⟩⟩
instance : USize Try.prog 120 (.nilFunc) 1 8 := ⟨by kernel_rfl⟩
instance : UOne Try.prog 120 := ⟨⟨_, Try.underlying120, rfl⟩⟩
instance : USize Try.prog 121 (.nilFunc) 1 8 := ⟨by kernel_rfl⟩
instance : UOne Try.prog 121 := ⟨⟨_, Try.underlying121, rfl⟩⟩
instance : USize Try.prog 122 (.nilFunc) 1 8 := ⟨by kernel_rfl⟩
instance : UOne Try.prog 122 := ⟨⟨_, Try.underlying122, rfl⟩⟩
instance : USize Try.prog 123 (.nilFunc) 1 8 := ⟨by kernel_rfl⟩
instance : UOne Try.prog 123 := ⟨⟨_, Try.underlying123, rfl⟩⟩
instance : USize Try.prog 124 (.nilFunc) 1 8 := ⟨by kernel_rfl⟩
instance : UOne Try.prog 124 := ⟨⟨_, Try.underlying124, rfl⟩⟩
instance : USize Try.prog 125 (.slice none 0 0) 1 24 := ⟨by kernel_rfl⟩
instance : USlice Try.prog 125 3 := ⟨Try.underlying125⟩
instance : UOne Try.prog 125 := ⟨⟨_, Try.underlying125, rfl⟩⟩
instance : USize Try.prog 126 (.nilFunc) 1 8 := ⟨by kernel_rfl⟩
instance : UOne Try.prog 126 := ⟨⟨_, Try.underlying126, rfl⟩⟩
instance : USize Try.prog 127 (.nilFunc) 1 8 := ⟨by kernel_rfl⟩
instance : UOne Try.prog 127 := ⟨⟨_, Try.underlying127, rfl⟩⟩
instance : USize Try.prog 128 (.nilFunc) 1 8 := ⟨by kernel_rfl⟩
instance : UOne Try.prog 128 := ⟨⟨_, Try.underlying128, rfl⟩⟩
instance : USize Try.prog 129 (.nilFunc) 1 8 := ⟨by kernel_rfl⟩
instance : UOne Try.prog 129 := ⟨⟨_, Try.underlying129, rfl⟩⟩
instance : USize Try.prog 130 (.nilFunc) 1 8 := ⟨by kernel_rfl⟩
instance : UOne Try.prog 130 := ⟨⟨_, Try.underlying130, rfl⟩⟩
instance : USize Try.prog 131 (.int .u64 0) 1 8 := ⟨by kernel_rfl⟩
instance : UInt Try.prog 131 .u64 := ⟨Try.underlying131⟩
instance : UOne Try.prog 131 := ⟨⟨_, Try.underlying131, rfl⟩⟩
instance : USize Try.prog 133 (.nilFunc) 1 8 := ⟨by kernel_rfl⟩
instance : UOne Try.prog 133 := ⟨⟨_, Try.underlying133, rfl⟩⟩
instance : USize Try.prog 134 (.nilFunc) 1 8 := ⟨by kernel_rfl⟩
instance : UOne Try.prog 134 := ⟨⟨_, Try.underlying134, rfl⟩⟩
instance : USize Try.prog 135 (.slice none 0 0) 1 24 := ⟨by kernel_rfl⟩
instance : USlice Try.prog 135 24 := ⟨Try.underlying135⟩
instance : UOne Try.prog 135 := ⟨⟨_, Try.underlying135, rfl⟩⟩
instance : USize Try.prog 136 (.nilFunc) 1 8 := ⟨by kernel_rfl⟩
instance : UOne Try.prog 136 := ⟨⟨_, Try.underlying136, rfl⟩⟩
instance : USize Try.prog 137 (.nilFunc) 1 8 := ⟨by kernel_rfl⟩
instance : UOne Try.prog 137 := ⟨⟨_, Try.underlying137, rfl⟩⟩
instance : USize Try.prog 138 (.int .i64 0) 1 8 := ⟨by kernel_rfl⟩
instance : UInt Try.prog 138 .i64 := ⟨Try.underlying138⟩
instance : UOne Try.prog 138 := ⟨⟨_, Try.underlying138, rfl⟩⟩
instance : USize Try.prog 140 (.nilFunc) 1 8 := ⟨by kernel_rfl⟩
instance : UOne Try.prog 140 := ⟨⟨_, Try.underlying140, rfl⟩⟩
instance : USize Try.prog 141 (.nilFunc) 1 8 := ⟨by kernel_rfl⟩
instance : UOne Try.prog 141 := ⟨⟨_, Try.underlying141, rfl⟩⟩
instance : USize Try.prog 142 (.nilFunc) 1 8 := ⟨by kernel_rfl⟩
instance : UOne Try.prog 142 := ⟨⟨_, Try.underlying142, rfl⟩⟩
instance : USize Try.prog 144 (.nilFunc) 1 8 := ⟨by kernel_rfl⟩
instance : UOne Try.prog 144 := ⟨⟨_, Try.underlying144, rfl⟩⟩
instance : USize Try.prog 145 (.nilFunc) 1 8 := ⟨by kernel_rfl⟩
instance : UOne Try.prog 145 := ⟨⟨_, Try.underlying145, rfl⟩⟩
instance : USize Try.prog 146 (.int .u32 0) 1 4 := ⟨by kernel_rfl⟩
instance : UInt Try.prog 146 .u32 := ⟨Try.underlying146⟩
instance : UOne Try.prog 146 := ⟨⟨_, Try.underlying146, rfl⟩⟩
instance : USize Try.prog 147 (.int .u64 0) 1 8 := ⟨by kernel_rfl⟩
instance : UInt Try.prog 147 .u64 := ⟨Try.underlying147⟩
instance : UOne Try.prog 147 := ⟨⟨_, Try.underlying147, rfl⟩⟩
instance : USize Try.prog 148 (.nilFunc) 1 8 := ⟨by kernel_rfl⟩
instance : UOne Try.prog 148 := ⟨⟨_, Try.underlying148, rfl⟩⟩
instance : USize Try.prog 149 (.nilFunc) 1 8 := ⟨by kernel_rfl⟩
instance : UOne Try.prog 149 := ⟨⟨_, Try.underlying149, rfl⟩⟩
instance : USize Try.prog 150 (.nilFunc) 1 8 := ⟨by kernel_rfl⟩
instance : UOne Try.prog 150 := ⟨⟨_, Try.underlying150, rfl⟩⟩
instance : USize Try.prog 151 (.pointer none) 1 8 := ⟨by kernel_rfl⟩
instance : UOne Try.prog 151 := ⟨⟨_, Try.underlying151, rfl⟩⟩
instance : USize Try.prog 152 (.nilFunc) 1 8 := ⟨by kernel_rfl⟩
instance : UOne Try.prog 152 := ⟨⟨_, Try.underlying152, rfl⟩⟩
instance : USize Try.prog 153 (.pointer none) 1 8 := ⟨by kernel_rfl⟩
instance : UOne Try.prog 153 := ⟨⟨_, Try.underlying153, rfl⟩⟩
instance : USize Try.prog 154 (.nilFunc) 1 8 := ⟨by kernel_rfl⟩
instance : UOne Try.prog 154 := ⟨⟨_, Try.underlying154, rfl⟩⟩
instance : USize Try.prog 155 (.nilFunc) 1 8 := ⟨by kernel_rfl⟩
instance : UOne Try.prog 155 := ⟨⟨_, Try.underlying155, rfl⟩⟩
instance : USize Try.prog 156 (.nilFunc) 1 8 := ⟨by kernel_rfl⟩
instance : UOne Try.prog 156 := ⟨⟨_, Try.underlying156, rfl⟩⟩
instance : USize Try.prog 157 (.nilFunc) 1 8 := ⟨by kernel_rfl⟩
instance : UOne Try.prog 157 := ⟨⟨_, Try.underlying157, rfl⟩⟩
instance : USize Try.prog 158 (.nilFunc) 1 8 := ⟨by kernel_rfl⟩
instance : UOne Try.prog 158 := ⟨⟨_, Try.underlying158, rfl⟩⟩
instance : USize Try.prog 159 (.agg #[.pointer none, .pointer none, .pointer none, .string ⟨#[]⟩]) 4 40 := ⟨by kernel_rfl⟩
instance : UAgg Try.prog 159 := ⟨⟨_, Try.underlying159⟩⟩
instance : UField Try.prog 159 0 17 0 := ⟨⟨_, _, Try.underlying159, rfl, rfl, rfl, by kernel_rfl⟩⟩
instance : UField Try.prog 159 1 17 1 := ⟨⟨_, _, Try.underlying159, rfl, rfl, rfl, by kernel_rfl⟩⟩
instance : UField Try.prog 159 2 17 2 := ⟨⟨_, _, Try.underlying159, rfl, rfl, rfl, by kernel_rfl⟩⟩
instance : UField Try.prog 159 3 9 3 := ⟨⟨_, _, Try.underlying159, rfl, rfl, rfl, by kernel_rfl⟩⟩
instance : USize Try.prog 160 (.agg #[.pointer none, .pointer none, .pointer none, .string ⟨#[]⟩]) 4 40 := ⟨by kernel_rfl⟩
instance : UAgg Try.prog 160 := ⟨⟨_, Try.underlying160⟩⟩
instance : UField Try.prog 160 0 17 0 := ⟨⟨_, _, Try.underlying160, rfl, rfl, rfl, by kernel_rfl⟩⟩
instance : UField Try.prog 160 1 17 1 := ⟨⟨_, _, Try.underlying160, rfl, rfl, rfl, by kernel_rfl⟩⟩
instance : UField Try.prog 160 2 17 2 := ⟨⟨_, _, Try.underlying160, rfl, rfl, rfl, by kernel_rfl⟩⟩
instance : UField Try.prog 160 3 9 3 := ⟨⟨_, _, Try.underlying160, rfl, rfl, rfl, by kernel_rfl⟩⟩
instance : USize Try.prog 161 (.agg #[]) 0 0 := ⟨by kernel_rfl⟩
instance : USize Try.prog 162 (.agg #[]) 0 0 := ⟨by kernel_rfl⟩
instance : UAgg Try.prog 162 := ⟨⟨_, Try.underlying162⟩⟩
instance : USize Try.prog 163 (.agg #[]) 0 0 := ⟨by kernel_rfl⟩
instance : UAgg Try.prog 163 := ⟨⟨_, Try.underlying163⟩⟩
instance : USize Try.prog 164 (.int .u8 0) 1 1 := ⟨by kernel_rfl⟩
instance : UInt Try.prog 164 .u8 := ⟨Try.underlying164⟩
instance : UOne Try.prog 164 := ⟨⟨_, Try.underlying164, rfl⟩⟩
instance : USize Try.prog 165 (.int .u8 0) 1 1 := ⟨by kernel_rfl⟩
instance : UInt Try.prog 165 .u8 := ⟨Try.underlying165⟩
instance : UOne Try.prog 165 := ⟨⟨_, Try.underlying165, rfl⟩⟩
instance : USize Try.prog 166 (.nilFunc) 1 8 := ⟨by kernel_rfl⟩
instance : UOne Try.prog 166 := ⟨⟨_, Try.underlying166, rfl⟩⟩
instance : USize Try.prog 167 (.pointer none) 1 8 := ⟨by kernel_rfl⟩
instance : UOne Try.prog 167 := ⟨⟨_, Try.underlying167, rfl⟩⟩
instance : USize Try.prog 168 (.int .i32 0) 1 4 := ⟨by kernel_rfl⟩
instance : UInt Try.prog 168 .i32 := ⟨Try.underlying168⟩
instance : UOne Try.prog 168 := ⟨⟨_, Try.underlying168, rfl⟩⟩
instance : USize Try.prog 169 (.int .i32 0) 1 4 := ⟨by kernel_rfl⟩
instance : UInt Try.prog 169 .i32 := ⟨Try.underlying169⟩
instance : UOne Try.prog 169 := ⟨⟨_, Try.underlying169, rfl⟩⟩
instance : USize Try.prog 170 (.agg #[.int .u64 0, .int .u64 0, .int .u32 0, .int .u8 0, .int .u8 0, .int .u8 0, .int .u8 0, .nilFunc, .pointer none, .int .i32 0, .int .i32 0]) 11 48 := ⟨by kernel_rfl⟩
instance : UAgg Try.prog 170 := ⟨⟨_, Try.underlying170⟩⟩
instance : UField Try.prog 170 0 12 0 := ⟨⟨_, _, Try.underlying170, rfl, rfl, rfl, by kernel_rfl⟩⟩
instance : UField Try.prog 170 1 12 1 := ⟨⟨_, _, Try.underlying170, rfl, rfl, rfl, by kernel_rfl⟩⟩
instance : UField Try.prog 170 2 146 2 := ⟨⟨_, _, Try.underlying170, rfl, rfl, rfl, by kernel_rfl⟩⟩
instance : UField Try.prog 170 3 164 3 := ⟨⟨_, _, Try.underlying170, rfl, rfl, rfl, by kernel_rfl⟩⟩
instance : UField Try.prog 170 4 5 4 := ⟨⟨_, _, Try.underlying170, rfl, rfl, rfl, by kernel_rfl⟩⟩
instance : UField Try.prog 170 5 5 5 := ⟨⟨_, _, Try.underlying170, rfl, rfl, rfl, by kernel_rfl⟩⟩
instance : UField Try.prog 170 6 165 6 := ⟨⟨_, _, Try.underlying170, rfl, rfl, rfl, by kernel_rfl⟩⟩
instance : UField Try.prog 170 7 166 7 := ⟨⟨_, _, Try.underlying170, rfl, rfl, rfl, by kernel_rfl⟩⟩
instance : UField Try.prog 170 8 167 8 := ⟨⟨_, _, Try.underlying170, rfl, rfl, rfl, by kernel_rfl⟩⟩
instance : UField Try.prog 170 9 168 9 := ⟨⟨_, _, Try.underlying170, rfl, rfl, rfl, by kernel_rfl⟩⟩
instance : UField Try.prog 170 10 169 10 := ⟨⟨_, _, Try.underlying170, rfl, rfl, rfl, by kernel_rfl⟩⟩
instance : USize Try.prog 171 (.agg #[.int .u64 0, .int .u64 0, .int .u32 0, .int .u8 0, .int .u8 0, .int .u8 0, .int .u8 0, .nilFunc, .pointer none, .int .i32 0, .int .i32 0]) 11 48 := ⟨by kernel_rfl⟩
instance : UAgg Try.prog 171 := ⟨⟨_, Try.underlying171⟩⟩
instance : UField Try.prog 171 0 12 0 := ⟨⟨_, _, Try.underlying171, rfl, rfl, rfl, by kernel_rfl⟩⟩
instance : UField Try.prog 171 1 12 1 := ⟨⟨_, _, Try.underlying171, rfl, rfl, rfl, by kernel_rfl⟩⟩
instance : UField Try.prog 171 2 146 2 := ⟨⟨_, _, Try.underlying171, rfl, rfl, rfl, by kernel_rfl⟩⟩
instance : UField Try.prog 171 3 164 3 := ⟨⟨_, _, Try.underlying171, rfl, rfl, rfl, by kernel_rfl⟩⟩
instance : UField Try.prog 171 4 5 4 := ⟨⟨_, _, Try.underlying171, rfl, rfl, rfl, by kernel_rfl⟩⟩
instance : UField Try.prog 171 5 5 5 := ⟨⟨_, _, Try.underlying171, rfl, rfl, rfl, by kernel_rfl⟩⟩
instance : UField Try.prog 171 6 165 6 := ⟨⟨_, _, Try.underlying171, rfl, rfl, rfl, by kernel_rfl⟩⟩
instance : UField Try.prog 171 7 166 7 := ⟨⟨_, _, Try.underlying171, rfl, rfl, rfl, by kernel_rfl⟩⟩
instance : UField Try.prog 171 8 167 8 := ⟨⟨_, _, Try.underlying171, rfl, rfl, rfl, by kernel_rfl⟩⟩
instance : UField Try.prog 171 9 168 9 := ⟨⟨_, _, Try.underlying171, rfl, rfl, rfl, by kernel_rfl⟩⟩
instance : UField Try.prog 171 10 169 10 := ⟨⟨_, _, Try.underlying171, rfl, rfl, rfl, by kernel_rfl⟩⟩
instance : USize Try.prog 172 (.pointer none) 1 8 := ⟨by kernel_rfl⟩
instance : IsFn Try.prog 3 := ⟨⟨_, Try.func3, by kernel_rfl, by kernel_rfl⟩⟩
instance : IsFn Try.prog 4 := ⟨⟨_, Try.func4, by kernel_rfl, by kernel_rfl⟩⟩
instance : IsFn Try.prog 5 := ⟨⟨_, Try.func5, by kernel_rfl, by kernel_rfl⟩⟩
instance : IsFn Try.prog 6 := ⟨⟨_, Try.func6, by kernel_rfl, by kernel_rfl⟩⟩
instance : IsFn Try.prog 7 := ⟨⟨_, Try.func7, by kernel_rfl, by kernel_rfl⟩⟩
instance : IsFn Try.prog 8 := ⟨⟨_, Try.func8, by kernel_rfl, by kernel_rfl⟩⟩
instance : IsFn Try.prog 9 := ⟨⟨_, Try.func9, by kernel_rfl, by kernel_rfl⟩⟩
instance : IsFn Try.prog 10 := ⟨⟨_, Try.func10, by kernel_rfl, by kernel_rfl⟩⟩
instance : IsFn Try.prog 11 := ⟨⟨_, Try.func11, by kernel_rfl, by kernel_rfl⟩⟩
instance : IsFn Try.prog 12 := ⟨⟨_, Try.func12, by kernel_rfl, by kernel_rfl⟩⟩
instance : IsFn Try.prog 13 := ⟨⟨_, Try.func13, by kernel_rfl, by kernel_rfl⟩⟩
instance : IsFn Try.prog 14 := ⟨⟨_, Try.func14, by kernel_rfl, by kernel_rfl⟩⟩
instance : IsFn Try.prog 15 := ⟨⟨_, Try.func15, by kernel_rfl, by kernel_rfl⟩⟩
instance : IsFn Try.prog 16 := ⟨⟨_, Try.func16, by kernel_rfl, by kernel_rfl⟩⟩
instance : IsFn Try.prog 17 := ⟨⟨_, Try.func17, by kernel_rfl, by kernel_rfl⟩⟩
instance : IsFn Try.prog 18 := ⟨⟨_, Try.func18, by kernel_rfl, by kernel_rfl⟩⟩
instance : IsFn Try.prog 19 := ⟨⟨_, Try.func19, by kernel_rfl, by kernel_rfl⟩⟩
instance : IsFn Try.prog 20 := ⟨⟨_, Try.func20, by kernel_rfl, by kernel_rfl⟩⟩
instance : IsFn Try.prog 21 := ⟨⟨_, Try.func21, by kernel_rfl, by kernel_rfl⟩⟩
instance : IsFn Try.prog 22 := ⟨⟨_, Try.func22, by kernel_rfl, by kernel_rfl⟩⟩
instance : IsFn Try.prog 23 := ⟨⟨_, Try.func23, by kernel_rfl, by kernel_rfl⟩⟩
instance : IsFn Try.prog 24 := ⟨⟨_, Try.func24, by kernel_rfl, by kernel_rfl⟩⟩
instance : IsFn Try.prog 25 := ⟨⟨_, Try.func25, by kernel_rfl, by kernel_rfl⟩⟩
instance : IsFn Try.prog 26 := ⟨⟨_, Try.func26, by kernel_rfl, by kernel_rfl⟩⟩
instance : IsFn Try.prog 27 := ⟨⟨_, Try.func27, by kernel_rfl, by kernel_rfl⟩⟩
instance : IsFn Try.prog 28 := ⟨⟨_, Try.func28, by kernel_rfl, by kernel_rfl⟩⟩
instance : IsFn Try.prog 29 := ⟨⟨_, Try.func29, by kernel_rfl, by kernel_rfl⟩⟩
instance : IsFn Try.prog 30 := ⟨⟨_, Try.func30, by kernel_rfl, by kernel_rfl⟩⟩
instance : IsFn Try.prog 31 := ⟨⟨_, Try.func31, by kernel_rfl, by kernel_rfl⟩⟩
instance : IsFn Try.prog 32 := ⟨⟨_, Try.func32, by kernel_rfl, by kernel_rfl⟩⟩
instance : IsFn Try.prog 33 := ⟨⟨_, Try.func33, by kernel_rfl, by kernel_rfl⟩⟩
instance : IsFn Try.prog 34 := ⟨⟨_, Try.func34, by kernel_rfl, by kernel_rfl⟩⟩
instance : IsFn Try.prog 35 := ⟨⟨_, Try.func35, by kernel_rfl, by kernel_rfl⟩⟩
instance : IsFn Try.prog 36 := ⟨⟨_, Try.func36, by kernel_rfl, by kernel_rfl⟩⟩
instance : IsFn Try.prog 37 := ⟨⟨_, Try.func37, by kernel_rfl, by kernel_rfl⟩⟩
instance : IsFn Try.prog 38 := ⟨⟨_, Try.func38, by kernel_rfl, by kernel_rfl⟩⟩
instance : IsFn Try.prog 39 := ⟨⟨_, Try.func39, by kernel_rfl, by kernel_rfl⟩⟩
instance : IsFn Try.prog 40 := ⟨⟨_, Try.func40, by kernel_rfl, by kernel_rfl⟩⟩
instance : IsFn Try.prog 41 := ⟨⟨_, Try.func41, by kernel_rfl, by kernel_rfl⟩⟩
instance : IsFn Try.prog 42 := ⟨⟨_, Try.func42, by kernel_rfl, by kernel_rfl⟩⟩
instance : IsFn Try.prog 43 := ⟨⟨_, Try.func43, by kernel_rfl, by kernel_rfl⟩⟩
instance : IsFn Try.prog 44 := ⟨⟨_, Try.func44, by kernel_rfl, by kernel_rfl⟩⟩
instance : IsFn Try.prog 45 := ⟨⟨_, Try.func45, by kernel_rfl, by kernel_rfl⟩⟩
instance : IsFn Try.prog 46 := ⟨⟨_, Try.func46, by kernel_rfl, by kernel_rfl⟩⟩
instance : IsFn Try.prog 47 := ⟨⟨_, Try.func47, by kernel_rfl, by kernel_rfl⟩⟩
instance : IsFn Try.prog 48 := ⟨⟨_, Try.func48, by kernel_rfl, by kernel_rfl⟩⟩
instance : IsFn Try.prog 49 := ⟨⟨_, Try.func49, by kernel_rfl, by kernel_rfl⟩⟩
instance : IsFn Try.prog 50 := ⟨⟨_, Try.func50, by kernel_rfl, by kernel_rfl⟩⟩
instance : IsFn Try.prog 51 := ⟨⟨_, Try.func51, by kernel_rfl, by kernel_rfl⟩⟩
instance : IsFn Try.prog 52 := ⟨⟨_, Try.func52, by kernel_rfl, by kernel_rfl⟩⟩
instance : IsFn Try.prog 53 := ⟨⟨_, Try.func53, by kernel_rfl, by kernel_rfl⟩⟩
instance : IsFn Try.prog 54 := ⟨⟨_, Try.func54, by kernel_rfl, by kernel_rfl⟩⟩
instance : IsFn Try.prog 55 := ⟨⟨_, Try.func55, by kernel_rfl, by kernel_rfl⟩⟩
instance : IsFn Try.prog 56 := ⟨⟨_, Try.func56, by kernel_rfl, by kernel_rfl⟩⟩
instance : IsFn Try.prog 57 := ⟨⟨_, Try.func57, by kernel_rfl, by kernel_rfl⟩⟩
instance : IsFn Try.prog 58 := ⟨⟨_, Try.func58, by kernel_rfl, by kernel_rfl⟩⟩
instance : IsFn Try.prog 59 := ⟨⟨_, Try.func59, by kernel_rfl, by kernel_rfl⟩⟩
instance : IsFn Try.prog 60 := ⟨⟨_, Try.func60, by kernel_rfl, by kernel_rfl⟩⟩
instance : IsFn Try.prog 61 := ⟨⟨_, Try.func61, by kernel_rfl, by kernel_rfl⟩⟩
instance : IsFn Try.prog 62 := ⟨⟨_, Try.func62, by kernel_rfl, by kernel_rfl⟩⟩
instance : IsFn Try.prog 63 := ⟨⟨_, Try.func63, by kernel_rfl, by kernel_rfl⟩⟩
instance : IsFn Try.prog 64 := ⟨⟨_, Try.func64, by kernel_rfl, by kernel_rfl⟩⟩
instance : IsFn Try.prog 65 := ⟨⟨_, Try.func65, by kernel_rfl, by kernel_rfl⟩⟩
instance : IsFn Try.prog 66 := ⟨⟨_, Try.func66, by kernel_rfl, by kernel_rfl⟩⟩
instance : IsFn Try.prog 67 := ⟨⟨_, Try.func67, by kernel_rfl, by kernel_rfl⟩⟩
instance : IsFn Try.prog 68 := ⟨⟨_, Try.func68, by kernel_rfl, by kernel_rfl⟩⟩
instance : IsFn Try.prog 69 := ⟨⟨_, Try.func69, by kernel_rfl, by kernel_rfl⟩⟩
instance : IsFn Try.prog 70 := ⟨⟨_, Try.func70, by kernel_rfl, by kernel_rfl⟩⟩
instance : IsFn Try.prog 71 := ⟨⟨_, Try.func71, by kernel_rfl, by kernel_rfl⟩⟩
instance : IsFn Try.prog 72 := ⟨⟨_, Try.func72, by kernel_rfl, by kernel_rfl⟩⟩
instance : IsFn Try.prog 73 := ⟨⟨_, Try.func73, by kernel_rfl, by kernel_rfl⟩⟩
instance : IsFn Try.prog 74 := ⟨⟨_, Try.func74, by kernel_rfl, by kernel_rfl⟩⟩
instance : IsFn Try.prog 75 := ⟨⟨_, Try.func75, by kernel_rfl, by kernel_rfl⟩⟩
instance : IsFn Try.prog 76 := ⟨⟨_, Try.func76, by kernel_rfl, by kernel_rfl⟩⟩
instance : IsFn Try.prog 77 := ⟨⟨_, Try.func77, by kernel_rfl, by kernel_rfl⟩⟩
instance : IsFn Try.prog 78 := ⟨⟨_, Try.func78, by kernel_rfl, by kernel_rfl⟩⟩
instance : IsFn Try.prog 79 := ⟨⟨_, Try.func79, by kernel_rfl, by kernel_rfl⟩⟩
instance : IsFn Try.prog 80 := ⟨⟨_, Try.func80, by kernel_rfl, by kernel_rfl⟩⟩
instance : IsFn Try.prog 81 := ⟨⟨_, Try.func81, by kernel_rfl, by kernel_rfl⟩⟩
instance : IsFn Try.prog 82 := ⟨⟨_, Try.func82, by kernel_rfl, by kernel_rfl⟩⟩
instance : IsFn Try.prog 83 := ⟨⟨_, Try.func83, by kernel_rfl, by kernel_rfl⟩⟩
instance : IsFn Try.prog 84 := ⟨⟨_, Try.func84, by kernel_rfl, by kernel_rfl⟩⟩
instance : IsFn Try.prog 85 := ⟨⟨_, Try.func85, by kernel_rfl, by kernel_rfl⟩⟩
instance : IsFn Try.prog 88 := ⟨⟨_, Try.func88, by kernel_rfl, by kernel_rfl⟩⟩
instance : IsFn Try.prog 89 := ⟨⟨_, Try.func89, by kernel_rfl, by kernel_rfl⟩⟩
instance : IsFn Try.prog 90 := ⟨⟨_, Try.func90, by kernel_rfl, by kernel_rfl⟩⟩
instance : IsFn Try.prog 91 := ⟨⟨_, Try.func91, by kernel_rfl, by kernel_rfl⟩⟩
instance : IsFn Try.prog 92 := ⟨⟨_, Try.func92, by kernel_rfl, by kernel_rfl⟩⟩
instance : IsFn Try.prog 93 := ⟨⟨_, Try.func93, by kernel_rfl, by kernel_rfl⟩⟩
instance : IsFn Try.prog 94 := ⟨⟨_, Try.func94, by kernel_rfl, by kernel_rfl⟩⟩
instance : IsFn Try.prog 95 := ⟨⟨_, Try.func95, by kernel_rfl, by kernel_rfl⟩⟩
instance : IsFn Try.prog 96 := ⟨⟨_, Try.func96, by kernel_rfl, by kernel_rfl⟩⟩
instance : IsFn Try.prog 97 := ⟨⟨_, Try.func97, by kernel_rfl, by kernel_rfl⟩⟩
instance : IsFn Try.prog 98 := ⟨⟨_, Try.func98, by kernel_rfl, by kernel_rfl⟩⟩
instance : IsFn Try.prog 99 := ⟨⟨_, Try.func99, by kernel_rfl, by kernel_rfl⟩⟩
instance : IsFn Try.prog 100 := ⟨⟨_, Try.func100, by kernel_rfl, by kernel_rfl⟩⟩
instance : IsFn Try.prog 101 := ⟨⟨_, Try.func101, by kernel_rfl, by kernel_rfl⟩⟩
instance : IsFn Try.prog 102 := ⟨⟨_, Try.func102, by kernel_rfl, by kernel_rfl⟩⟩
instance : IsFn Try.prog 103 := ⟨⟨_, Try.func103, by kernel_rfl, by kernel_rfl⟩⟩
instance : IsFn Try.prog 104 := ⟨⟨_, Try.func104, by kernel_rfl, by kernel_rfl⟩⟩
instance : IsFn Try.prog 105 := ⟨⟨_, Try.func105, by kernel_rfl, by kernel_rfl⟩⟩
instance : IsFn Try.prog 106 := ⟨⟨_, Try.func106, by kernel_rfl, by kernel_rfl⟩⟩
instance : IsFn Try.prog 107 := ⟨⟨_, Try.func107, by kernel_rfl, by kernel_rfl⟩⟩
instance : IsFn Try.prog 108 := ⟨⟨_, Try.func108, by kernel_rfl, by kernel_rfl⟩⟩
instance : IsFn Try.prog 109 := ⟨⟨_, Try.func109, by kernel_rfl, by kernel_rfl⟩⟩
instance : IsFn Try.prog 110 := ⟨⟨_, Try.func110, by kernel_rfl, by kernel_rfl⟩⟩
instance : IsFn Try.prog 111 := ⟨⟨_, Try.func111, by kernel_rfl, by kernel_rfl⟩⟩
instance : IsFn Try.prog 112 := ⟨⟨_, Try.func112, by kernel_rfl, by kernel_rfl⟩⟩
instance : IsFn Try.prog 113 := ⟨⟨_, Try.func113, by kernel_rfl, by kernel_rfl⟩⟩
instance : IsFn Try.prog 114 := ⟨⟨_, Try.func114, by kernel_rfl, by kernel_rfl⟩⟩
instance : IsFn Try.prog 115 := ⟨⟨_, Try.func115, by kernel_rfl, by kernel_rfl⟩⟩
instance : IsFn Try.prog 116 := ⟨⟨_, Try.func116, by kernel_rfl, by kernel_rfl⟩⟩
instance : IsFn Try.prog 117 := ⟨⟨_, Try.func117, by kernel_rfl, by kernel_rfl⟩⟩
instance : IsFn Try.prog 118 := ⟨⟨_, Try.func118, by kernel_rfl, by kernel_rfl⟩⟩
theorem mixed : Try.prog.follows .mixedOrders = true := by kernel_rfl
end Go.Proofs.Ytlpheckjogphmaa

namespace Go.Proofs.Ytlpheckjogphmaa
open Go Go.Eng Go.Proofs
instance : UMap Try.prog 94 89 42 := ⟨Try.underlying94⟩
instance : UMap Try.prog 105 3 33 := ⟨Try.underlying105⟩
instance : UMap Try.prog 107 3 42 := ⟨Try.underlying107⟩
instance : USpot Try.prog 89 := ⟨_, _, Try.underlying89, by decide, by decide, rfl, rfl, Try.underlying3, Try.underlying3, by kernel_rfl⟩
end Go.Proofs.Ytlpheckjogphmaa

namespace Go.Proofs.Ytlpheckjogphmaa
open Go Go.Eng Go.Proofs
instance : UStruct Try.prog 7 [(0, 1), (1, 1), (2, 1), (3, 1)] := ⟨⟨_, Try.underlying7, by kernel_rfl⟩⟩
instance : UStruct Try.prog 8 [(0, 1), (1, 1), (2, 1), (3, 1)] := ⟨⟨_, Try.underlying8, by kernel_rfl⟩⟩
instance : UStruct Try.prog 13 [(0, 1), (1, 1)] := ⟨⟨_, Try.underlying13, by kernel_rfl⟩⟩
instance : UStruct Try.prog 14 [(0, 1), (1, 1)] := ⟨⟨_, Try.underlying14, by kernel_rfl⟩⟩
instance : UStruct Try.prog 18 [(0, 1)] := ⟨⟨_, Try.underlying18, by kernel_rfl⟩⟩
instance : UStruct Try.prog 19 [(0, 1)] := ⟨⟨_, Try.underlying19, by kernel_rfl⟩⟩
instance : UStruct Try.prog 23 [(0, 1), (1, 1), (2, 1)] := ⟨⟨_, Try.underlying23, by kernel_rfl⟩⟩
instance : UStruct Try.prog 24 [(0, 1), (1, 1), (2, 1)] := ⟨⟨_, Try.underlying24, by kernel_rfl⟩⟩
instance : UStruct Try.prog 41 [(0, 1), (1, 1)] := ⟨⟨_, Try.underlying41, by kernel_rfl⟩⟩
instance : UStruct Try.prog 42 [(0, 1), (1, 1)] := ⟨⟨_, Try.underlying42, by kernel_rfl⟩⟩
instance : UStruct Try.prog 43 [(0, 1), (1, 1), (2, 1), (3, 2)] := ⟨⟨_, Try.underlying43, by kernel_rfl⟩⟩
instance : UStruct Try.prog 44 [(0, 1), (1, 1), (2, 1), (3, 2)] := ⟨⟨_, Try.underlying44, by kernel_rfl⟩⟩
instance : UStruct Try.prog 45 [(0, 1), (1, 1), (2, 2)] := ⟨⟨_, Try.underlying45, by kernel_rfl⟩⟩
instance : UStruct Try.prog 46 [(0, 1), (1, 1), (2, 2)] := ⟨⟨_, Try.underlying46, by kernel_rfl⟩⟩
instance : UStruct Try.prog 50 [(0, 1), (1, 1), (2, 1), (3, 1)] := ⟨⟨_, Try.underlying50, by kernel_rfl⟩⟩
instance : UStruct Try.prog 51 [(0, 1), (1, 1), (2, 1), (3, 1)] := ⟨⟨_, Try.underlying51, by kernel_rfl⟩⟩
instance : UStruct Try.prog 88 [(0, 1), (1, 1)] := ⟨⟨_, Try.underlying88, by kernel_rfl⟩⟩
instance : UStruct Try.prog 89 [(0, 1), (1, 1)] := ⟨⟨_, Try.underlying89, by kernel_rfl⟩⟩
instance : UStruct Try.prog 95 [(0, 1), (1, 1), (2, 1)] := ⟨⟨_, Try.underlying95, by kernel_rfl⟩⟩
instance : UStruct Try.prog 96 [(0, 1), (1, 1), (2, 1)] := ⟨⟨_, Try.underlying96, by kernel_rfl⟩⟩
instance : UStruct Try.prog 159 [(0, 1), (1, 1), (2, 1), (3, 1)] := ⟨⟨_, Try.underlying159, by kernel_rfl⟩⟩
instance : UStruct Try.prog 160 [(0, 1), (1, 1), (2, 1), (3, 1)] := ⟨⟨_, Try.underlying160, by kernel_rfl⟩⟩
instance : UStruct Try.prog 162 [(0, 0)] := ⟨⟨_, Try.underlying162, by kernel_rfl⟩⟩
instance : UStruct Try.prog 163 [(0, 0)] := ⟨⟨_, Try.underlying163, by kernel_rfl⟩⟩
instance : UStruct Try.prog 170 [(0, 1), (1, 1), (2, 1), (3, 1), (4, 1), (5, 1), (6, 1), (7, 1), (8, 1), (9, 1), (10, 1)] := ⟨⟨_, Try.underlying170, by kernel_rfl⟩⟩
instance : UStruct Try.prog 171 [(0, 1), (1, 1), (2, 1), (3, 1), (4, 1), (5, 1), (6, 1), (7, 1), (8, 1), (9, 1), (10, 1)] := ⟨⟨_, Try.underlying171, by kernel_rfl⟩⟩
end Go.Proofs.Ytlpheckjogphmaa
