/- The engine: append to lists of any kind in frames; literals of one value; functions as values; returns in memory behind a range over a function. Engine: pointers held against nil; two results in memory. Layer 10: grids; contracts of in, long, put, Get, Set, Len. Layer 10: grids; contracts of blank, New, put, Get, Set, Len, Shape. Layer 10: grids; contracts of put, Get, Set. -/
import Derived.Test.YtlpheckjogphmaaPg8
import Derived.Test.YtlpheckjogphmaaPg6
set_option linter.unusedVariables false
set_option linter.unusedSimpArgs false
namespace Go.Eng
open Go Go.RowKit
section
variable {P : Program} {N : Fm} {Q : Exit → Act → World → Prop} {σ : Store} {S : Nat → Prop} {w0 w : World} {L : List VB} {D : List DP} {ops : Array Oper} {d : Nat} {t : TypeId} {pos : String} {af : Array Edge} {rest : List Oper}
/-- to what stands at the head of a block known whole, elements of any type -/
theorem TL.appendAtFr {α : Type} {f : α → List Value} {g n c : Nat} {e : TypeId} {l : List α} {zs : List Value} {L' : List VB} (hF : Fr w0 w L D S) {x y : Operand} {ty : TypeId} [hT : USlice P ty e] {v0 : Value} {z : List Value} {sz b1 : Nat} [hS : USize P e v0 sz b1] (hzv : v0.cells = z.toArray) {a : Addr} {m c' B : Nat} {l' : List α}
    (hx : look σ x = some (.slice (some ⟨g, 0, none⟩) n c)) (hy : look σ y = some (.slice (some a) m c')) (hd : Nat.blt d N.n = true) (hs : Sm sz f w.heap B (some a) m c' l') (h1 : ∀ u, (f u).all (·.oneCell') = true) (hw : ∀ u, (f u).length = sz) (hzl : Nat.beq z.length sz = true) (hzn : z.all noU64 = true)
    (hl : l.length = n) (hzs : zs.length = (c - n) * sz) (hnc : n ≤ c) (hno : (l.flatMap f ++ zs).all noU64 = true)
    (hroom : (n + m) * b1 ≤ 140737488355328 ∧ n + m ≤ 4611686018427387904)
    (hL : SetV L g e (l.flatMap f ++ zs) ((l ++ l').flatMap f ++ zs.drop (m * sz)) L')
    (K1 : n + m ≤ c → ∀ w', Fr w0 w' L' D S → TL P N .seq ops Q rest ((d, .slice (some ⟨g, 0, none⟩) (n + m) c) :: σ) w')
    (K2 : c < n + m → ∀ w' b c2 zs', n + m ≤ c2 → zs'.length = (c2 - (n + m)) * sz → zs'.all noU64 = true → Fr w0 w' (⟨b, e, (l ++ l').flatMap f ++ zs'⟩ :: L) D S → TL P N .seq ops Q rest ((d, .slice (some ⟨b, 0, none⟩) (n + m) c2) :: σ) w') :
    TL P N .seq ops Q (⟨some d, .call { callee := .builtin .append, args := #[x, y], argTypes := #[ty, ty] }, t, pos, af, none⟩ :: rest) σ w := by
  obtain ⟨i, hi, hz0, hsz, hby⟩ := hS.info
  have hl' := hs.len
  have hzl' := Nat.eq_of_beq_eq_true hzl
  have hlf : (l.flatMap f).length = n * sz := by rw [flatMap_len (fun x _ => hw x), hl]
  have hlf' : (l'.flatMap f).length = m * sz := by rw [flatMap_len hs.wid, hl']
  have hV := hF.var hL.inV
  obtain ⟨b0, o0, hab⟩ : ∃ b0 o0, (a = ⟨b0, o0, none⟩ ∨ m = 0) := by
    rcases hs.mem with h | ⟨b, o, h, _⟩
    · exact ⟨0, 0, .inr h⟩
    · cases h; exact ⟨b, o, .inl rfl⟩
  have hnews : ∀ j v, (l'.flatMap f)[j]? = some v → w.cell? (a.add j) = some v := by
    rcases hab with rfl | h
    · exact sm_cells hs rfl
    · intro j v hv
      have := (List.getElem?_eq_some_iff.1 hv).1
      rw [hlf', h, Nat.zero_mul] at this; omega
  have holds : ∀ j v, (l.flatMap f)[j]? = some v → w.cell? ((⟨g, 0, none⟩ : Addr).add j) = some v := fun j v hv => by
    rw [add_mk, cell_of_hcell, Nat.zero_add, hV.cell, List.getElem?_append_left (List.getElem?_eq_some_iff.1 hv).1]; exact hv
  have h1' : ∀ u ∈ l'.flatMap f, u.oneCell' = true := fun u hu => by
    obtain ⟨q, _, hq⟩ := List.mem_flatMap.1 hu
    exact List.all_eq_true.1 (h1 q) u hq
  rcases Nat.lt_or_ge c (n + m) with hcm | hcm
  · have hr := run_append_grow (P := P) w ty t e i v0 hT.out hi hz0 ⟨g, 0, none⟩ n c (l.flatMap f) (by rw [hlf, hsz]) holds a m c' (l'.flatMap f) (by rw [hlf', hsz]) hnews (by omega) (by omega) (growslice_fits (by omega) (by rw [hby]; exact hroom.1))
    have hge := grownCap_ge w (n + m) c e
    have hV2 : Vr (w.drew.alloc (.cells ((l.flatMap f).toArray ++ (l'.flatMap f).toArray ++ Builtin.zeroCells z.toArray (grownCap w (n + m) c e - (n + m))) e)).heap w.heap.size e ((l ++ l').flatMap f ++ (Builtin.zeroCells z.toArray (grownCap w (n + m) c e - (n + m))).toList) := by
      unfold Vr
      have := heap_alloc w.drew (.cells ((l.flatMap f).toArray ++ (l'.flatMap f).toArray ++ Builtin.zeroCells z.toArray (grownCap w (n + m) c e - (n + m))) e)
      rw [show w.drew.heap.size = w.heap.size from rfl] at this
      rw [this]
      congr 2
      apply Array.ext'
      simp
    have hE : Ext w (w.drew.alloc (.cells ((l.flatMap f).toArray ++ (l'.flatMap f).toArray ++ Builtin.zeroCells z.toArray (grownCap w (n + m) c e - (n + m))) e)) := Ext.trans (ext_drewN w 1) (ext_alloc _ _)
    refine TL.op (fun ρ hρ => ?_) hd (K2 hcm _ _ _ _ hge (by rw [Array.length_toList, size_zeroCells, List.size_toArray, hzl']) (zero_noU hzn _) (hF.new rfl hV2 hE))
    rw [hzv] at hr
    simp [execOp, resolve, invoke, builtin, hρ x _ hx, hρ y _ hy, hr]
  · have hms : m * sz ≤ (c - n) * sz := Nat.mul_le_mul_right _ (by omega)
    have hr := run_append_room (P := P) w ty t e i hT.out hi g n c (l.flatMap f ++ zs).toArray hV a m c' (l'.flatMap f) (by rw [hlf', hsz]) hnews h1' hcm (by simp [hlf, hlf', hsz, hzs]; omega)
    have e1 : List.take (n * sz) (l.flatMap f ++ zs) = l.flatMap f := by rw [← hlf, List.take_left]
    have e2 : List.drop (n * sz + (l'.flatMap f).length) (l.flatMap f ++ zs) = zs.drop (m * sz) := by rw [← hlf, hlf', List.drop_append, List.drop_of_length_le (by omega)]; simp
    refine TL.op (w' := w.setRow g ((l.flatMap f) ++ l'.flatMap f ++ zs.drop (m * sz)).toArray) (fun ρ hρ => ?_) hd (K1 hcm _ (hF.store hL hno (upd_setRow _ _ _) ?_))
    · simp only [execOp, resolve, invoke, builtin, Sem.run_bind, Sem.run_pure, Result.andThen_ok, List.map_toArray, List.map_cons, List.map_nil, hρ x _ hx, hρ y _ hy]
      rw [hr]
      simp only [Result.andThen_ok, Sem.run_pure, hsz]
      rw [e1, e2]
    · unfold Vr at hV ⊢
      rw [setRow_heap w g _ _ e _ hV, List.flatMap_append]
end
section
variable {S : Nat → Prop} {w0 w w' : World} {L : List VB} {D : List DP} {b : Nat} {t : TypeId} {cs : List Value}
/-- a block that a callee has made -/
theorem Fr.newGe (h : Fr w0 w L D S) (hb : w.heap.size ≤ b) (hV : Vr w'.heap b t cs) (hE : Ext w w') : Fr w0 w' (⟨b, t, cs⟩ :: L) D S := by
  have h1 := h.exts hE
  refine ⟨h1.exs, fun v hv => ?_, List.pairwise_cons.2 ⟨fun v hv e => ?_, h.dist⟩, h1.data, fun v hv d hd => ?_⟩
  · rcases List.mem_cons.1 hv with rfl | hv
    · exact ⟨.inl (Nat.le_trans h.exs.size hb), hV⟩
    · exact h1.vars v hv
  · have := (h.vars v hv).2.lt
    simp only at e
    omega
  · rcases List.mem_cons.1 hv with rfl | hv
    · intro hk
      have := d.lt _ _ (h.data d hd) hk
      simp only at this
      omega
    · exact h.apart v hv d hd
end
section
variable {P : Program} {n : Nat} {σ : Store} {w : World} {fn : Func} {R : Ending → World → Prop}
theorem Held.cx {ty : TypeId} {b B : Nat} {e : TypeId} {cs : List Value} [hA : UAgg P ty] {z : Value} {sz b1 : Nat} [hS : USize P ty z sz b1] {w' : World} (hV : Vr w.heap b e cs) (hl : Nat.beq cs.length sz = true) (hc : Cx B w w') : Held P ty w' b (.agg cs.toArray) :=
  held_agg (e := e) (by unfold Vr at hV ⊢; exact (hc.cells _ _ hV rfl).trans hV) hl
theorem G.retMC1 {r : Nat} {ty : TypeId} {b : Nat} {v : Value} (hr : fn.results = #[.cell r ty]) (hp : look1 σ r = some (.pointer (some ⟨b, 0, none⟩))) (hH : Held P ty w b v) (h : R (.returned v) w) : G ⟨n, []⟩ .ret (bodyPostM Fence.wide 0 P fn R) σ w := by
  unfold G
  intro a ha
  have hd := ha.nodef
  simp only [bodyPostM, hd]
  exact leavesM (results_c1 hr (ha.get r _ hp) hH) h
end
class UFunc (P : Program) (t : TypeId) : Prop where
  out : ∃ a b c, P.underlying t = some (.func a b c)
section
variable {P : Program} {σ : Store} {H : Array Obj} {d : Option Tmp} {t : TypeId} {pos : String} {af : Array Edge} {gd : Option (Nat × Bool)}
theorem run_eql_fn {P : Program} {t : TypeId} [hT : UFunc P t] (f : Fn) (x y : Array Value) (w : World) : (Op.equal t (.func f x y) .nilFunc).run P w = .ok false w := by
  obtain ⟨a, b, c, h⟩ := hT.out
  have h1 : ∀ n : Nat, (Op.equalIn (n + 1) t (.func f x y) .nilFunc).run P w = .ok false w := fun n => by simp [Op.equalIn, run_underlying h]
  simp [Op.equal, Op.maxDepth, h1 9999]
theorem ev_eqlFn {x y : Operand} {tx ty : TypeId} [hT : UFunc P tx] {f : Fn} {p q : Array Value} (hx : look σ x = some (.func f p q)) (hy : look σ y = some .nilFunc) : Ev P σ H ⟨d, .binOp .eql tx x y ty, t, pos, af, gd⟩ (.bool false) := by
  unfold Ev
  intro ρ w hρ _
  have he : (eqGuard .eql tx x y (.func f p q) .nilFunc).run P w = .ok () w := by unfold eqGuard; simp
  simp [execOp, hρ x _ hx, hρ y _ hy, he, binOp, run_eql_fn]
end
end Go.Eng

namespace Go.Eng
open Go
class UPtr (P : Program) (t : TypeId) : Prop where
  out : ∃ e, P.underlying t = some (.pointer e)
section
variable {P : Program} {σ : Store} {H : Array Obj} {d : Option Tmp} {t : TypeId} {pos : String} {af : Array Edge} {gd : Option (Nat × Bool)}
theorem run_eql_p {P : Program} {t : TypeId} [hT : UPtr P t] (a : Option Addr) (w : World) : (Op.equal t (.pointer a) (.pointer none)).run P w = .ok a.isNone w := by
  obtain ⟨e, h⟩ := hT.out
  have h1 : ∀ n : Nat, (Op.equalIn (n + 1) t (.pointer a) (.pointer none)).run P w = .ok a.isNone w := fun n => by cases a <;> simp [Op.equalIn, run_underlying h]
  simp [Op.equal, Op.maxDepth, h1 9999]
theorem ev_eqlP {x y : Operand} {tx ty : TypeId} [hT : UPtr P tx] {a : Option Addr} {r : Bool} (hx : look σ x = some (.pointer a)) (hy : look σ y = some (.pointer none)) (h : a.isNone = r) : Ev P σ H ⟨d, .binOp .eql tx x y ty, t, pos, af, gd⟩ (.bool r) := by
  subst h
  unfold Ev
  intro ρ w hρ _
  have he : (eqGuard .eql tx x y (.pointer a) (.pointer none)).run P w = .ok () w := by unfold eqGuard; simp
  simp [execOp, hρ x _ hx, hρ y _ hy, he, binOp, run_eql_p]
end
section
variable {P : Program} {fn : Func} {R : Ending → World → Prop} {σ : Store} {w : World}
end
end Go.Eng

namespace Go.Eng
open Go Go.Proofs Go.NatM Go.RowKit Go.Proofs.Ytlpheckjogphmaa

instance : UPtr Try.prog 26 := ⟨_, Try.underlying26⟩
/-- an integer as a value -/
def ivA (x : IV) : Value := .agg #[.bool x.neg, .slice x.m.A x.m.n x.m.c]
def iv0 : IV := ⟨false, ⟨none, 0, 0, []⟩⟩
theorem iv0_gi (H : Array Obj) : GI H iv0 := ⟨⟨rfl, Nat.le_refl _, .inl rfl⟩, fun x hx => by cases hx⟩
/-- the block of a grid with r rows, c columns and the map m -/
def grc (r c : Nat) (m : Nat) : List Value := [.int .i64 (r : Int), .int .i64 (c : Int), .map (some m)]
abbrev GL := List ((Int × Int) × IV)
/-- a grid in the block g, its map in m, which holds l -/
structure Gr (H : Array Obj) (g m r c : Nat) (l : GL) : Prop where
  cells : Vr H g 96 (grc r c m)
  mp : ∃ es k, H[m]? = some (.map es k) ∧ MpR spot ivA es k l
  vals : ∀ p ∈ l, LI H (ival p.2) p.2 ∧ p.2.m.n ≤ 16384
/-- a block that nobody writes -/
def dpCb (b : Nat) (t : TypeId) (cs : List Value) : DP := ⟨fun H => Vr H b t cs, fun k => k = b, fun _ _ h e => e ▸ h.lt, fun _ _ hd h => by
  unfold Vr at h ⊢
  exact (hd.block b _ _ _ h (.inl rfl)).trans h⟩
/-- integers -/
def dpGv (l : GL) : DP := ⟨fun H => ∀ p ∈ l, LI H (ival p.2) p.2 ∧ p.2.m.n ≤ 16384, fun _ => False, fun _ _ _ h => h.elim, fun _ _ hd h p hp => ⟨(h p hp).1.de hd, (h p hp).2⟩⟩
/-- a grid -/
def dpGr (g m r c : Nat) (l : GL) : DP := ⟨fun H => Gr H g m r c l, fun k => k = g ∨ k = m, fun _ _ h e => by
  rcases e with rfl | rfl
  · exact h.cells.lt
  · obtain ⟨es, k, hm, _⟩ := h.mp
    exact (Array.getElem?_eq_some_iff.1 hm).1, fun _ _ hd h => ⟨by
  have h1 := h.cells
  unfold Vr at h1 ⊢
  exact (hd.block g _ _ _ h1 (.inl (.inl rfl))).trans h1, by
  obtain ⟨es, k, hm, hr⟩ := h.mp
  exact ⟨es, k, (hd.maps m _ hm rfl (.inr rfl)).trans hm, hr⟩, fun p hp => ⟨(h.vals p hp).1.de hd, (h.vals p hp).2⟩⟩⟩
section
variable {P : Program} {σ : Go.Eng.Store} {d : Option Tmp} {t : TypeId} {pos : String} {af : Array Edge} {gd : Option (Nat × Bool)} {S : Nat → Prop} {w0 w w' : World} {L : List VB} {D : List DP}
theorem ev_loadCb (hF : Fr w0 w L D S) {x : Operand} {ty e : TypeId} [hO : UOne P ty] {b o : Nat} {cs : List Value} {v : Value} (hx : Go.Eng.look σ x = some (.pointer (some ⟨b, o, none⟩))) (hm : dpCb b e cs ∈ D) (h : nthV cs o = some v) :
    Ev P σ w.heap ⟨d, .load ty x, t, pos, af, gd⟩ v := ev_loadV hx (hF.data _ hm) h
theorem Fr.refS (w : World) (S : Nat → Prop) : Fr w w [] [] S := ⟨Exs.refl _ _, fun _ h => (by cases h), List.Pairwise.nil, fun _ h => (by cases h), fun _ h => (by cases h)⟩
theorem Fr.mt (hF : Fr w0 w [] D S) (d : DP) (h : d.p w.heap) : Fr w0 w [] (d :: D) S := hF.add d h fun _ h => (by cases h)
/-- a grid, taken apart -/
theorem Gr.fr {g m r c : Nat} {l : GL} (h : Gr w.heap g m r c l) (S : Nat → Prop) : Fr w w [] [dpMp spot ivA m l, dpCb g 96 (grc r c m), dpGv l] S :=
  (((Fr.refS w S).mt (dpGv l) h.vals).mt (dpCb g 96 (grc r c m)) h.cells).mt (dpMp spot ivA m l) (by unfold dpMp; exact h.mp)
theorem Fr.gr {g m r c : Nat} {l : GL} (hF : Fr w0 w L D S) (h1 : dpMp spot ivA m l ∈ D) (h2 : dpCb g 96 (grc r c m) ∈ D) (h3 : dpGv l ∈ D) : Gr w.heap g m r c l := ⟨hF.data _ h2, hF.mp h1, hF.data _ h3⟩
theorem Fr.grd {g m r c : Nat} {l : GL} (hF : Fr w0 w L D S) (h : dpGr g m r c l ∈ D) : Gr w.heap g m r c l := hF.data _ h
theorem Fr.gv {l : GL} (hF : Fr w0 w L D S) (h : dpGv l ∈ D) : ∀ p ∈ l, LI w.heap (ival p.2) p.2 ∧ p.2.m.n ≤ 16384 := hF.data _ h
theorem Gr.ext {g m r c : Nat} {l : GL} (h : Gr w.heap g m r c l) (hE : Ext w w') : Gr w'.heap g m r c l := (dpGr g m r c l).st _ _ (DE.ext hE) h
/-- a callee has written one map -/
theorem Fr.callX {x y : DP} {m : Nat} {o : Obj} (hF : Fr w0 w L (x :: D) S) (hE : Exs (fun k => k = m) w w') (ho : w.heap[m]? = some o) (hc : o.isCells = false) (hb : w0.heap.size ≤ m ∨ S m) (hfree : ∀ x ∈ D, ¬ x.fp m) (hy : y.p w'.heap) (hyf : ∀ k, y.fp k → x.fp k) :
    Fr w0 w' L (y :: D) S := by
  have hne : ∀ v ∈ L, v.b ≠ m := fun v hv e => by
    have h1 := (hF.vars v hv).2
    unfold Vr at h1
    rw [e, ho] at h1
    cases h1
    cases hc
  refine ⟨hF.exs.then hE fun i hi e => ?_, fun v hv => ⟨(hF.vars v hv).1, ?_⟩, hF.dist, fun d hd => ?_, fun v hv d hd => ?_⟩
  · subst e
    exact hb.elim (fun h => absurd hi (Nat.not_lt_of_le h)) id
  · have h1 := (hF.vars v hv).2
    have h2 := h1.lt
    unfold Vr at h1 ⊢
    rw [hE.block _ h2 (hne v hv)]; exact h1
  · rcases List.mem_cons.1 hd with rfl | hd
    · exact hy
    · refine d.st _ _ ⟨hE.size, fun k cs t y hk _ => hE.block k (Array.getElem?_eq_some_iff.1 hk).1 fun e => ?_, fun k o hk _ hf => hE.block k (Array.getElem?_eq_some_iff.1 hk).1 fun e => hfree d hd (e ▸ hf)⟩ (hF.data d (List.mem_cons_of_mem _ hd))
      rw [e, ho] at hk
      cases hk
      cases hc
  · rcases List.mem_cons.1 hd with rfl | hd
    · exact fun h => hF.apart v hv x (List.mem_cons_self ..) (hyf _ h)
    · exact hF.apart v hv d (List.mem_cons_of_mem _ hd)
theorem Fr.callGr {g m r c : Nat} {l l' : GL} (hF : Fr w0 w L (dpGr g m r c l :: D) S) (hE : Exs (fun k => k = m) w w') (hb : w0.heap.size ≤ m ∨ S m) (hfree : ∀ x ∈ D, ¬ x.fp m) (hG : Gr w'.heap g m r c l') : Fr w0 w' L (dpGr g m r c l' :: D) S := by
  obtain ⟨es, k, hm, _⟩ := (hF.grd (List.mem_cons_self ..)).mp
  exact hF.callX hE hm rfl hb hfree hG fun _ h => h
theorem Fr.callMp {m : Nat} {l l' : GL} (hF : Fr w0 w L (dpMp spot ivA m l :: D) S) (hE : Exs (fun k => k = m) w w') (hb : w0.heap.size ≤ m ∨ S m) (hfree : ∀ x ∈ D, ¬ x.fp m) (hG : ∃ es k, w'.heap[m]? = some (.map es k) ∧ MpR spot ivA es k l') : Fr w0 w' L (dpMp spot ivA m l' :: D) S := by
  obtain ⟨es, k, hm, _⟩ := hF.mp (List.mem_cons_self ..)
  refine hF.callX hE hm rfl hb hfree (by unfold dpMp; exact hG) fun _ h => ?_
  unfold dpMp at h ⊢; exact h
/-- facts that do not look at a block -/
theorem nfN {m : Nat} : ∀ x ∈ ([] : List DP), ¬ x.fp m := fun _ h => by cases h
theorem nfC {m : Nat} {d : DP} {D : List DP} (h : ¬ d.fp m) (k : ∀ x ∈ D, ¬ x.fp m) : ∀ x ∈ d :: D, ¬ x.fp m := fun x hx => by
  rcases List.mem_cons.1 hx with rfl | hx
  · exact h
  · exact k x hx
theorem nf_gv {l : GL} {m : Nat} : ¬ (dpGv l).fp m := fun h => h
theorem nf_gi {x : IV} {m : Nat} : ¬ (dpGI x).fp m := by unfold dpGI; exact fun h => h
theorem nf_li {x : IV} {z : Int} {m : Nat} : ¬ (dpLI z x).fp m := by unfold dpLI; exact fun h => h
theorem nf_sl {A : Option Addr} {n c : Nat} {l : List Nat} {m : Nat} : ¬ (dpSl A n c l).fp m := by unfold dpSl; exact fun h => h
theorem nf_cb {b m : Nat} {t : TypeId} {cs : List Value} (h : b ≠ m) : ¬ (dpCb b t cs).fp m := fun e => h e.symm
theorem nf_mp {K V : Type} {f : K → Value} {g : V → Value} {b m : Nat} {l : List (K × V)} (h : b ≠ m) : ¬ (dpMp f g b l).fp m := by unfold dpMp; exact fun e => h e.symm
theorem Gr.ne {H : Array Obj} {g m r c : Nat} {l : GL} (h : Gr H g m r c l) : g ≠ m := fun e => by
  have h3 := h.cells
  obtain ⟨es, k, h4, _⟩ := h.mp
  unfold Vr at h3
  rw [e, h4] at h3
  cases h3
end
attribute [irreducible] dpCb dpGv dpGr

end Go.Eng
namespace Go.Proofs.Ytlpheckjogphmaa
open Go Go.Eng Go.Proofs Go.NatM Go.RowKit

theorem in_ok (w : World) (i n : Int) : Cl Try.prog 58 #[.int .i64 i, .int .i64 n] w (fun e w' => e = .returned (.bool (decide (0 ≤ i ∧ i < n))) ∧ Ext w w') := by
  refine enter Try.func58 rfl rfl rfl ?_
  have hF := Fr.refl w
  repeat' (first | (refine TL.isOp ?_; first | (refine TL.isG ?_; first | refine TL.grun rfl rfl rfl ?_ | refine TL.gskip rfl rfl rfl rfl ?_) | (refine TL.isBin ?_; refine TL.cmpG rfl rfl rfl rfl (fun hc => ?_) (fun hc => ?_) <;> (try (first | (exfalso; omega) | exact absurd rfl hc))) | (apply TL.ev; (case hd => rfl); (case h => (first | exact ev_simple rfl)))) | (refine T.is ?_; first | refine T.seq ?_ | refine T.region ?_ | refine T.ret ?_) | (refine G.is ?_; first | refine G.next ?_) | refine TL.nil ?_)
  all_goals first | (rw [decide_eq_true (by omega)]; exact G.ret1 rfl rfl ⟨rfl, hF.ext⟩) | (rw [decide_eq_false (by omega)]; exact G.ret1 rfl rfl ⟨rfl, hF.ext⟩)
theorem in_t (w : World) (i n : Int) (h : 0 ≤ i ∧ i < n) : Cl Try.prog 58 #[.int .i64 i, .int .i64 n] w (fun e w' => e = .returned (.bool true) ∧ Ext w w') := by
  have := in_ok w i n; rwa [decide_eq_true h] at this
theorem in_f (w : World) (i n : Int) (h : ¬ (0 ≤ i ∧ i < n)) : Cl Try.prog 58 #[.int .i64 i, .int .i64 n] w (fun e w' => e = .returned (.bool false) ∧ Ext w w') := by
  have := in_ok w i n; rwa [decide_eq_false h] at this
/-- too long for a grid -/
def big (x : IV) : Prop := 1048576 < bl (val x.m.l)
theorem long_ok (w : World) (x : IV) (g : GI w.heap x) (hn : x.m.n ≤ 1099511627776) (b : Bool) (hb : b = true ↔ big x) : Cl Try.prog 46 #[ivA x] w (fun e w' => e = .returned (.bool b) ∧ Ext w w') := by
  unfold big at hb
  obtain ⟨yn, ⟨A1, n1, c1, l1⟩⟩ := x
  obtain ⟨q, hq⟩ : ∃ q, bl (val l1) = q := ⟨_, rfl⟩
  have hs := g.s
  have hu := g.u
  dsimp only at hs hu hn hb
  have hbl := fun w1 (hE : Ext w w1) => (bitlen_ok w1.heap _ A1 n1 c1 l1 (hs.ext hE) hu (by omega)).cl
  rw [hq] at hbl hb
  refine enter Try.func46 rfl rfl rfl ?_
  have hF := Fr.refl w
  repeat' (first | (refine TL.isOp ?_; first | (refine TL.isCall ?_; refine TL.call rfl rfl ?_; first | (refine (hbl _ hF.ext).mono ?_; rintro _ w1 ⟨rfl, hE⟩; replace hF := hF.exts hE.ext; clear hE; refine Back.mk ?_)) | (refine TL.isBin ?_; refine TL.cmpG rfl rfl rfl rfl (fun hc => ?_) (fun hc => ?_) <;> (try (first | (exfalso; omega) | exact absurd rfl hc))) | (apply TL.ev; (case hd => rfl); (case h => (first | exact ev_simple rfl | (apply Ev.isLoad; first | exact ev_loadFr hF rfl (by refine ⟨?_, ?_⟩; (focus (repeat (first | exact InV.head | apply InV.tail))); rfl)) | exact ev_fieldAddr rfl))) | (refine TL.boxAFr hF (d := 1) (cs := [.bool yn, .slice A1 n1 c1]) rfl rfl ?_; clear hF; intro w1 b1 hF)) | (refine T.is ?_; first | refine T.seq ?_ | refine T.region ?_ | refine T.ret ?_) | (refine G.is ?_; first | refine G.next ?_) | refine TL.nil ?_)
  · have : b = true := hb.2 (by omega)
    subst this
    exact G.ret1 rfl rfl ⟨rfl, hF.ext⟩
  · have : b = false := by cases b with | false => rfl | true => have := hb.1 rfl; omega
    subst this
    exact G.ret1 rfl rfl ⟨rfl, hF.ext⟩
end Go.Proofs.Ytlpheckjogphmaa

namespace Go.Proofs.Ytlpheckjogphmaa
open Go Go.Eng Go.Proofs Go.NatM Go.RowKit

theorem elim_iv (o : Option IV) : o.elim (Value.agg #[.bool false, .slice none 0 0]) ivA = ivA (o.getD iv0) := by cases o <;> rfl
/-- a new, empty grid -/
def RetG (w : World) (r c : Nat) (l : GL) (e : Ending) (w' : World) : Prop := ∃ g m, e = .returned (.pointer (some ⟨g, 0, none⟩)) ∧ Ext w w' ∧ w.heap.size ≤ g ∧ w.heap.size ≤ m ∧ Gr w'.heap g m r c l
theorem blank_ok (w : World) (r c : Nat) : Cl Try.prog 47 #[.int .i64 (r : Int), .int .i64 (c : Int)] w (RetG w r c []) := by
  refine enter Try.func47 rfl rfl rfl ?_
  have hF := Fr.refl w
  repeat' (first | (refine TL.isOp ?_; first | (apply TL.ev; (case hd => rfl); (case h => (first | exact ev_simple rfl | exact ev_buildX rfl rfl))) | (refine TL.makeMpFr spot ivA hF (d := 7) rfl ?_; have h7 := hF.exs.size; clear hF; intro w7 m7 hm7 hF; replace h7 := Nat.le_trans h7 (Nat.le_of_eq hm7.symm)) | (refine TL.boxAFr hF (d := 9) (cs := grc r c m7) rfl rfl ?_; clear hF; intro w9 b9 hF)) | (refine T.is ?_; first | refine T.seq ?_ | refine T.region ?_ | refine T.ret ?_) | (refine G.is ?_; first | refine G.next ?_) | refine TL.nil ?_)
  all_goals exact G.ret1 rfl rfl ⟨b9, m7, rfl, hF.ext, (hF.lo .head).elim id fun h => h.elim, h7, hF.var .head, hF.mp (by repeat (first | exact memH | apply memT)), fun p hp => by cases hp⟩
theorem gnew_ok (w : World) (r c : Nat) (h : r ≤ 1048576 ∧ c ≤ 1048576) : Cl Try.prog 26 #[.int .i64 (r : Int), .int .i64 (c : Int)] w (fun e w' => ∃ e', RetG w r c [] e' w' ∧ ∃ v, e' = .returned v ∧ e = .returned (.tuple #[v, .int .i64 0])) := by
  have h1 := fun w1 => in_t w1 (r : Int) 1048577 (by omega)
  have h2 := fun w1 => in_t w1 (c : Int) 1048577 (by omega)
  refine enter Try.func26 rfl rfl rfl ?_
  have hF := Fr.refl w
  repeat' (first | (refine TL.isOp ?_; first | (refine TL.isG ?_; first | refine TL.grun rfl rfl rfl ?_) | (refine TL.isCall ?_; refine TL.call rfl rfl ?_; first | (refine (h1 _).mono ?_; rintro _ wy ⟨rfl, hE⟩; replace hF := hF.exts hE; clear hE; refine Back.mk ?_) | (refine (h2 _).mono ?_; rintro _ wy ⟨rfl, hE⟩; replace hF := hF.exts hE; clear hE; refine Back.mk ?_) | (refine (blank_ok _ r c).mono ?_; rintro _ wy ⟨g, m, rfl, hE, hg, hm, hG⟩; have hz := hF.exs.size; replace hF := hF.exts hE; clear hE; refine Back.mk ?_)) | (apply TL.ev; (case hd => rfl); (case h => (first | exact ev_simple rfl)))) | (refine T.is ?_; first | refine T.seq ?_ | refine T.region ?_ | refine T.cond_f rfl ?_ | refine T.ret ?_ | refine T.skip ?_) | (refine G.is ?_; first | refine G.next ?_) | refine TL.nil ?_)
  all_goals exact G.ret2 rfl rfl rfl ⟨_, ⟨g, m, rfl, hF.ext, Nat.le_trans hz hg, Nat.le_trans hz hm, hG⟩, _, rfl, rfl⟩
theorem glen_ok (w : World) (g m r c : Nat) (l : GL) (hG : Gr w.heap g m r c l) : Cl Try.prog 15 #[.pointer (some ⟨g, 0, none⟩)] w (fun e w' => e = .returned (.int .i64 (l.length : Int)) ∧ Ext w w') := by
  have hF := Gr.fr hG fun _ => False
  clear hG
  refine enter Try.func15 rfl rfl rfl ?_
  repeat' (first | (refine TL.isOp ?_; first | (apply TL.ev; (case hd => rfl); (case h => (first | exact ev_simple rfl | (apply Ev.isBin; first | exact ev_eqlP rfl rfl rfl) | (apply Ev.isLoad; first | exact ev_loadCb hF rfl (by repeat (first | exact memH | apply memT)) rfl) | exact ev_fieldAddr rfl | exact ev_nilCheck rfl | exact ev_mlen hF rfl (by repeat (first | exact memH | apply memT)))))) | (refine T.is ?_; first | refine T.seq ?_ | refine T.region ?_ | refine T.cond_f rfl ?_ | refine T.ret ?_ | refine T.skip ?_) | (refine G.is ?_; first | refine G.next ?_) | refine TL.nil ?_)
  all_goals exact G.ret1 rfl rfl ⟨rfl, hF.ext⟩
end Go.Proofs.Ytlpheckjogphmaa

namespace Go.Eng
open Go Go.Proofs Go.NatM Go.RowKit Go.Proofs.Ytlpheckjogphmaa
section
variable {S : Nat → Prop} {w0 w w' : World} {L : List VB} {D : List DP}
theorem Gr.frD {g m r c : Nat} {l : GL} (h : Gr w.heap g m r c l) (hF : Fr w0 w [] D S) : Fr w0 w [] (dpMp spot ivA m l :: dpCb g 96 (grc r c m) :: dpGv l :: D) S :=
  ((Fr.mt hF (dpGv l) (by unfold dpGv; exact h.vals)).mt (dpCb g 96 (grc r c m)) (by unfold dpCb; exact h.cells)).mt (dpMp spot ivA m l) (by unfold dpMp; exact h.mp)
theorem ups_mem {K V : Type} [DecidableEq K] : ∀ {l : List (K × V)} {x : K} {v : V} {p : K × V}, p ∈ ups l x v → p = (x, v) ∨ p ∈ l
  | [], x, v, p, h => .inl (by simpa [ups] using h)
  | (y, u) :: l, x, v, p, h => by
    unfold ups at h
    split at h
    · rcases List.mem_cons.1 h with h | h
      · exact .inl h
      · exact .inr (List.mem_cons_of_mem _ h)
    · rcases List.mem_cons.1 h with h | h
      · exact .inr (h ▸ List.mem_cons_self ..)
      · exact (ups_mem h).imp id (List.mem_cons_of_mem _)
/-- behind a turn of the map: a place written -/
theorem Fr.grU {g m r c : Nat} {l : GL} {q : Int × Int} {x : IV} {z : Int} (hF : Fr w0 w L D S) (h1 : dpMp spot ivA m (ups l q x) ∈ D) (h2 : dpCb g 96 (grc r c m) ∈ D) (h3 : dpGv l ∈ D) (h4 : dpLI z x ∈ D) (h5 : x.m.n ≤ 16384) : Gr w.heap g m r c (ups l q x) :=
  ⟨(by have := hF.data _ h2; unfold dpCb at this; exact this), hF.mp h1, fun p hp => (by
    rcases ups_mem hp with rfl | hp
    · have h6 := hF.data _ h4
      unfold dpLI at h6
      have h7 : LI w.heap z x := h6
      exact ⟨h7.val.symm ▸ h7, h5⟩
    · have h6 := hF.data _ h3
      unfold dpGv at h6
      exact h6 p hp)⟩
/-- .. taken away -/
theorem Fr.grD {g m r c : Nat} {l : GL} {q : Int × Int} (hF : Fr w0 w L D S) (h1 : dpMp spot ivA m (del l q) ∈ D) (h2 : dpCb g 96 (grc r c m) ∈ D) (h3 : dpGv l ∈ D) : Gr w.heap g m r c (del l q) :=
  ⟨(by have := hF.data _ h2; unfold dpCb at this; exact this), hF.mp h1, fun p hp => (by
    have h6 := hF.data _ h3
    unfold dpGv at h6
    exact h6 p ((del_sub l q).subset hp))⟩
end
end Go.Eng
namespace Go.Proofs.Ytlpheckjogphmaa
open Go Go.Eng Go.Proofs Go.NatM Go.RowKit

/-- a map turned -/
def RetW (w : World) (g m r c : Nat) (l : GL) (v : Value) (e : Ending) (w' : World) : Prop := e = .returned v ∧ Exs (fun k => k = m) w w' ∧ Gr w'.heap g m r c l
theorem gput_put (w : World) (g m r c : Nat) (l : GL) (p : Int × Int) (x : IV) (z : Int) (hG : Gr w.heap g m r c l) (hx : LI w.heap z x) (hn : x.m.n ≤ 16384) (hz : z ≠ 0) :
    Cl Try.prog 49 #[.pointer (some ⟨g, 0, none⟩), spot p, ivA x] w (RetW w g m r c (ups l p x) (.tuple #[])) := by
  have hF := Gr.frD hG (Fr.mt (Fr.refS w fun k => k = m) (dpLI z x) (by unfold dpLI; exact hx))
  have hgm := hG.ne
  have hv := hx.val
  have hs : sig (ival x) ≠ 0 := by rw [hv]; unfold sig; (repeat' split) <;> first | decide | omega
  have hsg := fun w1 (g1 : GI w1.heap x) => zsign_ok w1 x g1 (by omega)
  generalize sig (ival x) = sg at hs hsg
  clear hG hx hv
  obtain ⟨p1, p2⟩ := p
  obtain ⟨xn, ⟨xA, xk, xc, xl⟩⟩ := x
  dsimp only at hn
  refine enter Try.func49 rfl rfl rfl ?_
  repeat' (first | (refine TL.isOp ?_; first | (refine TL.isCall ?_; refine TL.call rfl rfl ?_; first | (refine (hsg _ (Fr.li hF (by repeat (first | exact memH | apply memT))).g).mono ?_; rintro _ wy ⟨rfl, hE⟩; replace hF := hF.exts hE; clear hE; refine Back.mk ?_)) | (refine TL.isBin ?_; refine TL.cmpG rfl rfl rfl rfl (fun hc => ?_) (fun hc => ?_) <;> (try (first | (exfalso; omega) | exact absurd rfl hc))) | (apply TL.ev; (case hd => rfl); (case h => (first | (apply Ev.isLoad; first | exact ev_loadAFr hF rfl (by refine ⟨?_, ?_⟩; (focus (repeat (first | exact InV.head | apply InV.tail))); rfl))))) | (refine TL.boxAFr hF (d := 4) (cs := [.int .i64 p1, .int .i64 p2]) rfl rfl ?_; clear hF; intro w4 b4 hF) | (refine TL.boxAFr hF (d := 5) (cs := [.bool xn, .slice xA xk xc]) rfl rfl ?_; clear hF; intro w5 b5 hF) | (refine TL.mupd hF (.inr rfl) (nfC (nf_cb hgm) (nfC nf_gv (nfC nf_li nfN))) (q := (p1, p2)) (v := ⟨xn, ⟨xA, xk, xc, xl⟩⟩) rfl rfl rfl ?_; clear hF; intro wu hF)) | (refine TF.is ?_; first | refine TF.nil ?_ | refine TF.e rfl ?_ | (refine TF.pick rfl ?_; first | (apply TFo.ev; (case hd => rfl); (case h => (intro wh hF; first | exact ev_simple rfl | (apply Ev.isLoad; first | exact ev_loadAFr hF rfl (by refine ⟨?_, ?_⟩; (focus (repeat (first | exact InV.head | apply InV.tail))); rfl) | exact ev_loadCb hF rfl (by repeat (first | exact memH | apply memT)) rfl) | exact ev_fieldAddr rfl | exact ev_nilCheck rfl))))) | (refine T.is ?_; first | refine T.seq ?_ | refine T.region ?_ | refine T.cond_f rfl ?_ | refine T.skip ?_ | (refine T.regionFr hF 3 6 (.s 0 (.s 1 (.s 2 (.s 3 (.s 4 (.s 5 (.e 6 .nil))))))) mixed (by kernel_rfl) ?_; clear hF; intro wr hF)) | (refine G.is ?_; first | refine G.next ?_ | refine G.only ?_ | refine G.treeEnd rfl ?_) | refine TL.nil ?_)
  all_goals exact G.end0 rfl ⟨rfl, hF.exs, hF.grU (by repeat (first | exact memH | apply memT)) (by repeat (first | exact memH | apply memT)) (by repeat (first | exact memH | apply memT)) (by repeat (first | exact memH | apply memT)) hn⟩
theorem gput_zero (w : World) (g m r c : Nat) (l : GL) (p : Int × Int) (x : IV) (hG : Gr w.heap g m r c l) (hx : LI w.heap 0 x) (hn : x.m.n ≤ 16384) :
    Cl Try.prog 49 #[.pointer (some ⟨g, 0, none⟩), spot p, ivA x] w (RetW w g m r c (del l p) (.tuple #[])) := by
  have hF := Gr.frD hG (Fr.mt (Fr.refS w fun k => k = m) (dpLI 0 x) (by unfold dpLI; exact hx))
  have hgm := hG.ne
  have hv := hx.val
  have hsg := fun w1 (g1 : GI w1.heap x) => zsign_ok w1 x g1 (by omega)
  rw [hv] at hsg
  clear hG hx hv
  obtain ⟨p1, p2⟩ := p
  obtain ⟨xn, ⟨xA, xk, xc, xl⟩⟩ := x
  dsimp only at hn
  refine enter Try.func49 rfl rfl rfl ?_
  repeat' (first | (refine TL.isOp ?_; first | (refine TL.isCall ?_; refine TL.call rfl rfl ?_; first | (refine (hsg _ (Fr.li hF (by repeat (first | exact memH | apply memT))).g).mono ?_; rintro _ wy ⟨rfl, hE⟩; replace hF := hF.exts hE; clear hE; refine Back.mk ?_)) | (refine TL.isBin ?_; refine TL.cmpG rfl rfl rfl rfl (fun hc => ?_) (fun hc => ?_) <;> (try (first | (exfalso; omega) | exact absurd rfl hc))) | (apply TL.ev; (case hd => rfl); (case h => (first | (apply Ev.isLoad; first | exact ev_loadAFr hF rfl (by refine ⟨?_, ?_⟩; (focus (repeat (first | exact InV.head | apply InV.tail))); rfl))))) | (refine TL.boxAFr hF (d := 4) (cs := [.int .i64 p1, .int .i64 p2]) rfl rfl ?_; clear hF; intro w4 b4 hF) | (refine TL.boxAFr hF (d := 5) (cs := [.bool xn, .slice xA xk xc]) rfl rfl ?_; clear hF; intro w5 b5 hF) | (refine TL.mdel hF (.inr rfl) (nfC (nf_cb hgm) (nfC nf_gv (nfC nf_li nfN))) (q := (p1, p2)) rfl rfl ?_; clear hF; intro wu hF)) | (refine TF.is ?_; first | refine TF.nil ?_ | refine TF.e rfl ?_ | (refine TF.pick rfl ?_; first | (apply TFo.ev; (case hd => rfl); (case h => (intro wh hF; first | exact ev_simple rfl | (apply Ev.isLoad; first | exact ev_loadAFr hF rfl (by refine ⟨?_, ?_⟩; (focus (repeat (first | exact InV.head | apply InV.tail))); rfl) | exact ev_loadCb hF rfl (by repeat (first | exact memH | apply memT)) rfl) | exact ev_fieldAddr rfl | exact ev_nilCheck rfl))))) | (refine T.is ?_; first | refine T.seq ?_ | refine T.region ?_ | refine T.cond_t rfl ?_ | refine T.ret ?_ | (refine T.regionFr hF 2 5 (.s 0 (.s 1 (.s 2 (.s 3 (.s 4 (.e 5 .nil)))))) mixed (by kernel_rfl) ?_; clear hF; intro wr hF)) | (refine G.is ?_; first | refine G.next ?_ | refine G.thenR ?_ | refine G.only ?_ | refine G.treeEnd rfl ?_) | refine TL.nil ?_)
  all_goals exact G.ret0 rfl ⟨rfl, hF.exs, hF.grD (by repeat (first | exact memH | apply memT)) (by repeat (first | exact memH | apply memT)) (by repeat (first | exact memH | apply memT))⟩
theorem words_bl {n k : Nat} (h : bl n ≤ 64 * k) : (dig n).length ≤ k := by
  have h1 := bl_le.1 h
  rw [Nat.pow_mul] at h1
  exact NatM.dig_length_le h1
/-- what is not too long has few words -/
theorem LI.few {H : Array Obj} {x y : IV} (h : LI H (ival x) y) (hb : ¬ big x) : y.m.n ≤ 16384 := by
  have h1 : (ival x).natAbs = NatM.val x.m.l := by unfold ival; exact sgn_abs ..
  rw [← h.g.s.len, h.d, h1]
  refine words_bl ?_
  unfold big at hb
  omega
def at0 (l : GL) (p : Int × Int) : IV := (lkp l p).getD iv0
theorem gv_at {w : World} {l : GL} (h : ∀ p ∈ l, LI w.heap (ival p.2) p.2 ∧ p.2.m.n ≤ 16384) (p : Int × Int) : GI w.heap (at0 l p) ∧ (at0 l p).m.n ≤ 16384 := by
  unfold at0
  cases hq : lkp l p with
  | none => exact ⟨iv0_gi _, Nat.zero_le _⟩
  | some y => have := h _ (lkp_mem hq); exact ⟨this.1.g, this.2⟩
section
variable {P : Program} {σ : Go.Eng.Store} {do_ : Option Tmp} {t : TypeId} {pos : String} {af : Array Edge} {gd : Option (Nat × Bool)} {S : Nat → Prop} {w0 w w' : World} {L : List VB} {D : List DP}
theorem ev_mlookI (hF : Fr w0 w L D S) {x i : Operand} {ty k e : TypeId} [hT : UMap P ty k e] [hK : UKey P k (Int × Int) spot] {sz b1 b : Nat} [hS : USize P e (.agg #[.bool false, .slice none 0 0]) sz b1] {l : GL} {y : Int × Int} (hx : Go.Eng.look σ x = some (.map (some b))) (hi : Go.Eng.look σ i = some (spot y)) (hm : dpMp spot ivA b l ∈ D) :
    Ev P σ w.heap ⟨do_, .lookup ty x i false, t, pos, af, gd⟩ (ivA (at0 l y)) := by
  have := ev_mlook (do_ := do_) (t := t) (pos := pos) (af := af) (gd := gd) (ty := ty) (P := P) hF hx hi hm
  rwa [elim_iv] at this
theorem ev_mlookOkI (hF : Fr w0 w L D S) {x i : Operand} {ty k e : TypeId} [hT : UMap P ty k e] [hK : UKey P k (Int × Int) spot] {sz b1 b : Nat} [hS : USize P e (.agg #[.bool false, .slice none 0 0]) sz b1] {l : GL} {y : Int × Int} {r : Bool} (hx : Go.Eng.look σ x = some (.map (some b))) (hi : Go.Eng.look σ i = some (spot y)) (hm : dpMp spot ivA b l ∈ D) (hr : (lkp l y).isSome = r) :
    Ev P σ w.heap ⟨do_, .lookup ty x i true, t, pos, af, gd⟩ (.tuple #[ivA (at0 l y), .bool r]) := by
  have := ev_mlookOk (do_ := do_) (t := t) (pos := pos) (af := af) (gd := gd) (ty := ty) (P := P) hF hx hi hm
  rwa [elim_iv, hr] at this
theorem Fr.addGv (h : Fr w0 w L D S) {l : GL} (k : ∀ p ∈ l, LI w.heap (ival p.2) p.2 ∧ p.2.m.n ≤ 16384) : Fr w0 w L (dpGv l :: D) S := h.add _ (by unfold dpGv; exact k) fun _ _ h => nf_gv h
end
/-- an integer and an error -/
def RetZI (w : World) (z : Int) (er : Int) (e : Ending) (w' : World) : Prop := ∃ x : IV, e = .returned (.tuple #[ivA x, .int .i64 er]) ∧ LI w'.heap z x ∧ Ext w w' ∧ x.m.n ≤ 16384
theorem gget_ok (w : World) (g m r c : Nat) (l : GL) (p1 p2 : Int) (hG : Gr w.heap g m r c l) (hp : (0 ≤ p1 ∧ p1 < (r : Int)) ∧ (0 ≤ p2 ∧ p2 < (c : Int))) :
    Cl Try.prog 31 #[.pointer (some ⟨g, 0, none⟩), .int .i64 p1, .int .i64 p2] w (RetZI w (ival (at0 l (p1, p2))) 0) := by
  obtain ⟨hX, hn⟩ := gv_at hG.vals (p1, p2)
  have hF := Gr.frD hG (Fr.mt (Fr.refS w fun _ => False) (dpGI (at0 l (p1, p2))) (by unfold dpGI; exact hX))
  clear hG hX
  have h1 := fun w1 => in_t w1 p1 r hp.1
  have h2 := fun w1 => in_t w1 p2 c hp.2
  have hz := fun w1 (g1 : GI w1.heap (at0 l (p1, p2))) => zleast_ok w1 _ g1 (by omega)
  clear hp
  refine enter Try.func31 rfl rfl rfl ?_
  repeat' (first | (refine TL.isOp ?_; first | (refine TL.isG ?_; first | refine TL.grun rfl rfl rfl ?_) | (refine TL.isCall ?_; refine TL.call rfl rfl ?_; first | (refine (h1 _).mono ?_; rintro _ wy ⟨rfl, hE⟩; replace hF := hF.exts hE; clear hE; refine Back.mk ?_) | (refine (h2 _).mono ?_; rintro _ wy ⟨rfl, hE⟩; replace hF := hF.exts hE; clear hE; refine Back.mk ?_) | (refine (hz _ (Fr.gi hF (by repeat (first | exact memH | apply memT)))).mono ?_; rintro _ wy ⟨y, rfl, hy, hE, hyn⟩; replace hF := Fr.addLI (hF.exts hE) hy; clear hE hy; refine Back.mk ?_)) | (apply TL.ev; (case hd => rfl); (case h => (first | exact ev_simple rfl | (apply Ev.isBin; first | exact ev_eqlP rfl rfl rfl) | (apply Ev.isLoad; first | exact ev_loadCb hF rfl (by repeat (first | exact memH | apply memT)) rfl) | exact ev_fieldAddr rfl | exact ev_buildX rfl rfl | exact ev_nilCheck rfl | exact ev_mlookI hF (y := (p1, p2)) rfl rfl (by repeat (first | exact memH | apply memT))))) | (refine TL.storeAFr hF rfl rfl rfl rfl (by refine ⟨?_, ?_⟩; (focus (repeat (first | apply SetV.head | apply SetV.tail))); rfl) rfl ?_; clear hF; intro ws hF) | (refine TL.allocFr hF (d := 6) rfl rfl ?_; clear hF; intro w6 b6 hF)) | (refine T.is ?_; first | refine T.seq ?_ | refine T.region ?_ | refine T.cond_f rfl ?_ | refine T.ret ?_ | refine T.skip ?_) | (refine G.is ?_; first | refine G.next ?_) | refine TL.nil ?_)
  all_goals exact G.retC2 rfl rfl rfl (held_agg (hF.var (by repeat (first | exact InV.head | apply InV.tail))) rfl) ⟨y, rfl, Fr.li hF (by repeat (first | exact memH | apply memT)), hF.ext, Nat.le_trans hyn hn⟩
end Go.Proofs.Ytlpheckjogphmaa
