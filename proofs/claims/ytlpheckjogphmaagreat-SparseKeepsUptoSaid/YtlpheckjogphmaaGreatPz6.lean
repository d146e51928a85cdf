/- Layer 9: zint's Sign, Cmp, Sub. The engine: a list of structs appended to a list of structs whose block is known whole; to nothing. The engine: append to lists of any kind in frames; literals of one value; functions as values; returns in memory behind a range over a function. Engine: pointers held against nil; two results in memory. Layer 10: grids; contracts of in, long, put, Get, Set, Len. Layer 10: grids; contracts of blank, New, put, Get, Set, Len, Shape. Layer 10: grids; contracts of put, Get, Set. Layer 10: grids; contracts of Set; the law's awake. Layer 10: the law's awake; nil grids; the law SparseNil. Layer 10: nil grids; the law SparseNil. Layer 10: the law SparseNil. The engine: literals of any number of structs; lists as facts in frames. The engine: a list appended to a new, empty one; a part, of many cells, of an element. Layer 10: lists of places; the contract of line. Layer 10: the contract of Clear. Layer 10: lists of keys and values as functions; the contract of Swap. Layer 10: the contracts of Turn and Copy. Layer 10: grids as functions: what stands at a place as a number. Layer 10: the contract of Add. -/
import Derived.Test.YtlpheckjogphmaaGreatPz5
import Derived.Test.YtlpheckjogphmaaGreatPz4
import Derived.Test.YtlpheckjogphmaaGreatPz3
set_option maxHeartbeats 2000000
set_option linter.unusedVariables false
set_option linter.unusedSimpArgs false
namespace Go.Proofs.YtlpheckjogphmaaGreat
open Go Go.Eng Go.Proofs Go.NatM Go.RowKit
theorem zsign_ok (w : World) (x : IV) (g : GI w.heap x) (hn : x.m.n ≤ 1099511627776) : Cl Tryz.prog 39 #[.agg (ivc x).toArray] w (fun e w' => e = .returned (.int .i64 (sig (ival x))) ∧ Ext w w') := by
  obtain ⟨yn, ⟨A1, n1, c1, l1⟩⟩ := x
  obtain ⟨b, hb⟩ : ∃ b, bl (val l1) = b := ⟨_, rfl⟩
  have hb0 : b = 0 ↔ val l1 = 0 := by rw [← hb]; unfold bl; constructor <;> intro h <;> (try split at h) <;> simp_all
  have hs := g.s
  have hu := g.u
  dsimp only at hs hu hn
  have hbl := fun w1 (hE : Ext w w1) => (bitlen_ok w1.heap _ A1 n1 c1 l1 (hs.ext hE) hu (by omega)).cl
  rw [hb] at hbl
  by_cases h0 : b = 0
  · have e : sig (ival ⟨yn, ⟨A1, n1, c1, l1⟩⟩) = 0 := by have := hb0.1 h0; simp [sig, ival, sgn, this]
    rw [e]
    refine enter Tryz.func39 rfl rfl rfl ?_
    have hF := Fr.refl w
    repeat' (first | (refine TL.isOp ?_; first | (refine TL.isCall ?_; refine TL.call rfl rfl ?_; first | (refine (hbl _ hF.ext).mono ?_; rintro _ w1 ⟨rfl, hE⟩; replace hF := hF.exts hE.ext; clear hE; refine Back.mk ?_)) | (refine TL.isBin ?_; refine TL.cmpG rfl rfl rfl rfl (fun hc => ?_) (fun hc => ?_) <;> (try (first | (exfalso; omega) | exact absurd rfl hc))) | (apply TL.ev; (case hd => rfl); (case h => (first | exact ev_simple rfl | (apply Ev.isLoad; first | exact ev_loadFr hF rfl (by refine ⟨?_, ?_⟩; (focus (repeat (first | exact InV.head | apply InV.tail))); rfl)) | exact ev_fieldAddr rfl))) | (refine TL.boxAFr hF (d := 1) (cs := [.bool yn, .slice A1 n1 c1]) rfl rfl ?_; clear hF; intro w1 b1 hF)) | (refine T.is ?_; first | refine T.seq ?_ | refine T.region ?_ | refine T.block ?_ | refine T.cond_t rfl ?_ | refine T.ret ?_) | (refine G.is ?_; first | refine G.next ?_ | refine G.blockR ?_ | refine G.thenR ?_) | refine TL.nil ?_)
    exact G.ret1 rfl rfl ⟨rfl, hF.ext⟩
  · have h1 : val l1 ≠ 0 := fun h => h0 (hb0.2 h)
    cases yn with
    | true =>
      have e : sig (ival ⟨true, ⟨A1, n1, c1, l1⟩⟩) = -1 := by simp only [sig, ival, sgn, if_true]; rw [if_pos (by omega)]
      rw [e]
      refine enter Tryz.func39 rfl rfl rfl ?_
      have hF := Fr.refl w
      repeat' (first | (refine TL.isOp ?_; first | (refine TL.isCall ?_; refine TL.call rfl rfl ?_; first | (refine (hbl _ hF.ext).mono ?_; rintro _ w1 ⟨rfl, hE⟩; replace hF := hF.exts hE.ext; clear hE; refine Back.mk ?_)) | (refine TL.isBin ?_; refine TL.cmpG rfl rfl rfl rfl (fun hc => ?_) (fun hc => ?_) <;> (try (first | (exfalso; omega) | exact absurd rfl hc))) | (apply TL.ev; (case hd => rfl); (case h => (first | exact ev_simple rfl | (apply Ev.isLoad; first | exact ev_loadFr hF rfl (by refine ⟨?_, ?_⟩; (focus (repeat (first | exact InV.head | apply InV.tail))); rfl)) | exact ev_fieldAddr rfl))) | (refine TL.boxAFr hF (d := 1) (cs := [.bool true, .slice A1 n1 c1]) rfl rfl ?_; clear hF; intro w1 b1 hF)) | (refine T.is ?_; first | refine T.seq ?_ | refine T.region ?_ | refine T.block ?_ | refine T.cond_t rfl ?_ | refine T.cond_f rfl ?_ | refine T.ret ?_) | (refine G.is ?_; first | refine G.next ?_ | refine G.blockR ?_ | refine G.thenR ?_) | refine TL.nil ?_)
      exact G.ret1 rfl rfl ⟨rfl, hF.ext⟩
    | false =>
      have e : sig (ival ⟨false, ⟨A1, n1, c1, l1⟩⟩) = 1 := by simp only [sig, ival, sgn, Bool.false_eq_true, if_false]; rw [if_neg (by omega), if_neg (by omega)]
      rw [e]
      refine enter Tryz.func39 rfl rfl rfl ?_
      have hF := Fr.refl w
      repeat' (first | (refine TL.isOp ?_; first | (refine TL.isCall ?_; refine TL.call rfl rfl ?_; first | (refine (hbl _ hF.ext).mono ?_; rintro _ w1 ⟨rfl, hE⟩; replace hF := hF.exts hE.ext; clear hE; refine Back.mk ?_)) | (refine TL.isBin ?_; refine TL.cmpG rfl rfl rfl rfl (fun hc => ?_) (fun hc => ?_) <;> (try (first | (exfalso; omega) | exact absurd rfl hc))) | (apply TL.ev; (case hd => rfl); (case h => (first | exact ev_simple rfl | (apply Ev.isLoad; first | exact ev_loadFr hF rfl (by refine ⟨?_, ?_⟩; (focus (repeat (first | exact InV.head | apply InV.tail))); rfl)) | exact ev_fieldAddr rfl))) | (refine TL.boxAFr hF (d := 1) (cs := [.bool false, .slice A1 n1 c1]) rfl rfl ?_; clear hF; intro w1 b1 hF)) | (refine T.is ?_; first | refine T.seq ?_ | refine T.region ?_ | refine T.block ?_ | refine T.cond_f rfl ?_ | refine T.ret ?_ | refine T.skip ?_) | (refine G.is ?_; first | refine G.next ?_ | refine G.blockN ?_) | refine TL.nil ?_)
      exact G.ret1 rfl rfl ⟨rfl, hF.ext⟩
end Go.Proofs.YtlpheckjogphmaaGreat
namespace Go.Eng
open Go Go.RowKit
theorem sm_cells {α : Type} {f : α → List Value} {w : World} {k B n c : Nat} {A : Option Addr} {l : List α} (h : Sm k f w.heap B A n c l) {b o : Nat} (hA : A = some ⟨b, o, none⟩) : ∀ j v, (l.flatMap f)[j]? = some v → w.cell? ((⟨b, o, none⟩ : Addr).add j) = some v := by
  intro j v hv
  have hlen := h.len
  have hk := h.pos
  have hfl := flatMap_len h.wid
  have hj : j < l.length * k := by rw [← hfl]; exact (List.getElem?_eq_some_iff.1 hv).1
  rcases h.mem with h0 | ⟨b', o', e, _, hc⟩
  · rw [hlen, h0, Nat.zero_mul] at hj; omega
  · rw [hA] at e
    cases e
    rw [add_mk, cell_of_hcell]
    have h1 : j / k < l.length := Nat.div_lt_of_lt_mul (by rw [Nat.mul_comm]; exact hj)
    have h2 := flatMap_get h.wid (j / k) (j % k) l[j / k] (List.getElem?_eq_getElem h1) (Nat.mod_lt _ hk)
    rw [Nat.div_add_mod'] at h2
    have h3 := hc (j / k) l[j / k] (List.getElem?_eq_getElem h1) (j % k) v (by rw [← h2]; exact hv)
    rw [Nat.div_add_mod'] at h3
    exact h3
theorem zero_noU {z : List Value} (hz : z.all noU64 = true) (n : Nat) : (Builtin.zeroCells z.toArray n).toList.all noU64 = true := by
  rw [List.all_eq_true]
  intro v hv
  simp only [Builtin.zeroCells, Array.toList_map, List.mem_map] at hv
  obtain ⟨q, hq, rfl⟩ := hv
  have hq' : q < n * z.length := by simpa using hq
  have hlt : q % z.length < z.length := Nat.mod_lt _ (by rcases Nat.eq_zero_or_pos z.length with h | h; rw [h] at hq'; omega; exact h)
  have : z.toArray[q % z.toArray.size]! = z[q % z.length] := by simp [List.getElem?_eq_getElem hlt]
  rw [this]
  exact List.all_eq_true.1 hz _ (List.getElem_mem hlt)
section
variable {P : Program} {N : Fm} {Q : Exit → Act → World → Prop} {σ : Store} {S : Nat → Prop} {w0 w : World} {L : List VB} {D : List DP} {ops : Array Oper} {d : Nat} {t : TypeId} {pos : String} {af : Array Edge} {rest : List Oper}
theorem Fr.swap {a b : VB} (h : Fr w0 w (a :: b :: L) D S) : Fr w0 w (b :: a :: L) D S := by
  have hp : ∀ v, v ∈ b :: a :: L → v ∈ a :: b :: L := fun v hv => by simp only [List.mem_cons] at hv ⊢; rcases hv with h | h | h <;> simp [h]
  refine ⟨h.exs, fun v hv => h.vars v (hp v hv), ?_, h.data, fun v hv => h.apart v (hp v hv)⟩
  have hd := h.dist
  simp only [List.pairwise_cons, List.mem_cons] at hd ⊢
  refine ⟨fun v hv => ?_, fun v hv => hd.1 v (.inr hv), hd.2.2⟩
  rcases hv with rfl | hv
  · exact fun e => hd.1 b (.inl rfl) e.symm
  · exact hd.2.1 v hv
theorem ev_loadMc {H : Array Obj} {d : Option Tmp} {gd : Option (Nat × Bool)} {x : Operand} {ty : TypeId} [hA : UAgg P ty] {z : Value} {sz b1 : Nat} [hS : USize P ty z sz b1] {α : Type} {f : α → List Value} {B n c i : Nat} {A : Option Addr} {l : List α} {y : α} (cs : List Value)
    (hx : look σ x = some (.pointer (elemA A (i * sz)))) (hs : Sm sz f H B A n c l) (hy : l[i]? = some y) (hc : f y = cs) : Ev P σ H ⟨d, .load ty x, t, pos, af, gd⟩ (.agg cs.toArray) := hc ▸ ev_loadM hx hs hy
end
end Go.Eng
namespace Go.Eng
open Go Go.RowKit
section
variable {P : Program} {N : Fm} {Q : Exit → Act → World → Prop} {σ : Store} {S : Nat → Prop} {w0 w : World} {L : List VB} {D : List DP} {ops : Array Oper} {d : Nat} {t : TypeId} {pos : String} {af : Array Edge} {rest : List Oper}
theorem TL.appendNewFr (hF : Fr w0 w L D S) {α : Type} (f : α → List Value) {x y : Operand} {ty e : TypeId} [hT : USlice P ty e] {v0 : Value} {z : List Value} {sz b1 : Nat} [hS : USize P e v0 sz b1] (hzv : v0.cells = z.toArray) {a : Addr} {m c' B : Nat} {l' : List α}
    (hx : look σ x = some (.slice none 0 0)) (hy : look σ y = some (.slice (some a) m c')) (hd : Nat.blt d N.n = true) (hs : Sm sz f w.heap B (some a) m c' l') (h1 : ∀ u, (f u).all (·.oneCell') = true) (hzl : Nat.beq z.length sz = true) (hzn : z.all noU64 = true)
    (hroom : m * b1 ≤ 140737488355328 ∧ m ≤ 4611686018427387904)
    (K0 : m = 0 → TL P N .seq ops Q rest ((d, .slice none 0 0) :: σ) w)
    (K : 0 < m → ∀ w' b c2 zs, m ≤ c2 → zs.length = (c2 - m) * sz → zs.all noU64 = true → Fr w0 w' (⟨b, e, l'.flatMap f ++ zs⟩ :: L) D S → TL P N .seq ops Q rest ((d, .slice (some ⟨b, 0, none⟩) m c2) :: σ) w') :
    TL P N .seq ops Q (⟨some d, .call { callee := .builtin .append, args := #[x, y], argTypes := #[ty, ty] }, t, pos, af, none⟩ :: rest) σ w := by
  obtain ⟨i, hi, hz0, hsz, hby⟩ := hS.info
  have hl' := hs.len
  have hzl' := Nat.eq_of_beq_eq_true hzl
  rcases Nat.eq_zero_or_pos m with h0 | h0
  · subst h0
    refine TL.op (fun ρ hρ => ?_) hd (K0 rfl)
    have : (Builtin.append_ #[ty, ty] t #[.slice none 0 0, .slice (some a) 0 c']).run P w = .ok (.slice none 0 0) w := by
      simp [Builtin.append_, run_underlying hT.out, sizeOf, typeInfo, hi, Builtin.lenOf, Builtin.firstCells, loadCells, loadCellsFrom]
    simp [execOp, resolve, invoke, builtin, hρ x _ hx, hρ y _ hy, this]
  · rcases hs.mem with h | ⟨b, o, hab, _, _⟩
    · omega
    cases hab
    have hlf := flatMap_len hs.wid
    have hr := run_append_nil (P := P) w ty t e i v0 hT.out hi hz0 ⟨b, o, none⟩ m c' (l'.flatMap f) (by rw [hlf, hl', hsz]) (sm_cells hs rfl) h0 (by omega) (by rw [hby]; omega)
    have hge := grownCap_ge w m 0 e
    have hV : Vr (w.drew.alloc (.cells ((l'.flatMap f).toArray ++ Builtin.zeroCells z.toArray (grownCap w m 0 e - m)) e)).heap w.heap.size e (l'.flatMap f ++ (Builtin.zeroCells z.toArray (grownCap w m 0 e - m)).toList) := by
      unfold Vr
      have := heap_alloc w.drew (.cells ((l'.flatMap f).toArray ++ Builtin.zeroCells z.toArray (grownCap w m 0 e - m)) e)
      rw [show w.drew.heap.size = w.heap.size from rfl] at this
      rw [this]
      congr 2
      apply Array.ext'
      simp
    have hE : Ext w (w.drew.alloc (.cells ((l'.flatMap f).toArray ++ Builtin.zeroCells z.toArray (grownCap w m 0 e - m)) e)) := Ext.trans (ext_drewN w 1) (ext_alloc _ _)
    refine TL.op (fun ρ hρ => ?_) hd (K h0 _ _ _ _ hge (by rw [Array.length_toList, size_zeroCells, List.size_toArray, hzl']) (zero_noU hzn _) (hF.new rfl hV hE))
    rw [hzv] at hr
    simp [execOp, resolve, invoke, builtin, hρ x _ hx, hρ y _ hy, hr]
theorem TL.appendAtFr {α : Type} {f : α → List Value} {g n c : Nat} {e : TypeId} {l : List α} {zs : List Value} {L' : List VB} (hF : Fr w0 w L D S) {x y : Operand} {ty : TypeId} [hT : USlice P ty e] {v0 : Value} {z : List Value} {sz b1 : Nat} [hS : USize P e v0 sz b1] (hzv : v0.cells = z.toArray) {a : Addr} {m c' B : Nat} {l' : List α}
    (hx : look σ x = some (.slice (some ⟨g, 0, none⟩) n c)) (hy : look σ y = some (.slice (some a) m c')) (hd : Nat.blt d N.n = true) (hs : Sm sz f w.heap B (some a) m c' l') (h1 : ∀ u, (f u).all (·.oneCell') = true) (hw : ∀ u, (f u).length = sz) (hzl : Nat.beq z.length sz = true) (hzn : z.all noU64 = true)
    (hl : l.length = n) (hzs : zs.length = (c - n) * sz) (hnc : n ≤ c) (hno : (l.flatMap f ++ zs).all noU64 = true)
    (hroom : (n + m) * b1 ≤ 140737488355328 ∧ n + m ≤ 4611686018427387904)
    (hL : SetV L g e (l.flatMap f ++ zs) ((l ++ l').flatMap f ++ zs.drop (m * sz)) L')
    (K1 : n + m ≤ c → ∀ w', Fr w0 w' L' D S → TL P N .seq ops Q rest ((d, .slice (some ⟨g, 0, none⟩) (n + m) c) :: σ) w')
    (K2 : c < n + m → ∀ w' b c2 zs', n + m ≤ c2 → zs'.length = (c2 - (n + m)) * sz → zs'.all noU64 = true → Fr w0 w' (⟨b, e, (l ++ l').flatMap f ++ zs'⟩ :: L) D S → TL P N .seq ops Q rest ((d, .slice (some ⟨b, 0, none⟩) (n + m) c2) :: σ) w') :
    TL P N .seq ops Q (⟨some d, .call { callee := .builtin .append, args := #[x, y], argTypes := #[ty, ty] }, t, pos, af, none⟩ :: rest) σ w := by
  obtain ⟨i, hi, hz0, hsz, hby⟩ := hS.info
  have hl' := hs.len
  have hzl' := Nat.eq_of_beq_eq_true hzl
  have hlf : (l.flatMap f).length = n * sz := by rw [flatMap_len (fun x _ => hw x), hl]
  have hlf' : (l'.flatMap f).length = m * sz := by rw [flatMap_len hs.wid, hl']
  have hV := hF.var hL.inV
  obtain ⟨b0, o0, hab⟩ : ∃ b0 o0, (a = ⟨b0, o0, none⟩ ∨ m = 0) := by
    rcases hs.mem with h | ⟨b, o, h, _⟩
    · exact ⟨0, 0, .inr h⟩
    · cases h; exact ⟨b, o, .inl rfl⟩
  have hnews : ∀ j v, (l'.flatMap f)[j]? = some v → w.cell? (a.add j) = some v := by
    rcases hab with rfl | h
    · exact sm_cells hs rfl
    · intro j v hv
      have := (List.getElem?_eq_some_iff.1 hv).1
      rw [hlf', h, Nat.zero_mul] at this; omega
  have holds : ∀ j v, (l.flatMap f)[j]? = some v → w.cell? ((⟨g, 0, none⟩ : Addr).add j) = some v := fun j v hv => by
    rw [add_mk, cell_of_hcell, Nat.zero_add, hV.cell, List.getElem?_append_left (List.getElem?_eq_some_iff.1 hv).1]; exact hv
  have h1' : ∀ u ∈ l'.flatMap f, u.oneCell' = true := fun u hu => by
    obtain ⟨q, _, hq⟩ := List.mem_flatMap.1 hu
    exact List.all_eq_true.1 (h1 q) u hq
  rcases Nat.lt_or_ge c (n + m) with hcm | hcm
  · have hr := run_append_grow (P := P) w ty t e i v0 hT.out hi hz0 ⟨g, 0, none⟩ n c (l.flatMap f) (by rw [hlf, hsz]) holds a m c' (l'.flatMap f) (by rw [hlf', hsz]) hnews (by omega) (by omega) (growslice_fits (by omega) (by rw [hby]; exact hroom.1))
    have hge := grownCap_ge w (n + m) c e
    have hV2 : Vr (w.drew.alloc (.cells ((l.flatMap f).toArray ++ (l'.flatMap f).toArray ++ Builtin.zeroCells z.toArray (grownCap w (n + m) c e - (n + m))) e)).heap w.heap.size e ((l ++ l').flatMap f ++ (Builtin.zeroCells z.toArray (grownCap w (n + m) c e - (n + m))).toList) := by
      unfold Vr
      have := heap_alloc w.drew (.cells ((l.flatMap f).toArray ++ (l'.flatMap f).toArray ++ Builtin.zeroCells z.toArray (grownCap w (n + m) c e - (n + m))) e)
      rw [show w.drew.heap.size = w.heap.size from rfl] at this
      rw [this]
      congr 2
      apply Array.ext'
      simp
    have hE : Ext w (w.drew.alloc (.cells ((l.flatMap f).toArray ++ (l'.flatMap f).toArray ++ Builtin.zeroCells z.toArray (grownCap w (n + m) c e - (n + m))) e)) := Ext.trans (ext_drewN w 1) (ext_alloc _ _)
    refine TL.op (fun ρ hρ => ?_) hd (K2 hcm _ _ _ _ hge (by rw [Array.length_toList, size_zeroCells, List.size_toArray, hzl']) (zero_noU hzn _) (hF.new rfl hV2 hE))
    rw [hzv] at hr
    simp [execOp, resolve, invoke, builtin, hρ x _ hx, hρ y _ hy, hr]
  · have hms : m * sz ≤ (c - n) * sz := Nat.mul_le_mul_right _ (by omega)
    have hr := run_append_room (P := P) w ty t e i hT.out hi g n c (l.flatMap f ++ zs).toArray hV a m c' (l'.flatMap f) (by rw [hlf', hsz]) hnews h1' hcm (by simp [hlf, hlf', hsz, hzs]; omega)
    have e1 : List.take (n * sz) (l.flatMap f ++ zs) = l.flatMap f := by rw [← hlf, List.take_left]
    have e2 : List.drop (n * sz + (l'.flatMap f).length) (l.flatMap f ++ zs) = zs.drop (m * sz) := by rw [← hlf, hlf', List.drop_append, List.drop_of_length_le (by omega)]; simp
    refine TL.op (w' := w.setRow g ((l.flatMap f) ++ l'.flatMap f ++ zs.drop (m * sz)).toArray) (fun ρ hρ => ?_) hd (K1 hcm _ (hF.store hL hno (upd_setRow _ _ _) ?_))
    · simp only [execOp, resolve, invoke, builtin, Sem.run_bind, Sem.run_pure, Result.andThen_ok, List.map_toArray, List.map_cons, List.map_nil, hρ x _ hx, hρ y _ hy]
      rw [hr]
      simp only [Result.andThen_ok, Sem.run_pure, hsz]
      rw [e1, e2]
    · unfold Vr at hV ⊢
      rw [setRow_heap w g _ _ e _ hV, List.flatMap_append]
end
section
variable {S : Nat → Prop} {w0 w w' : World} {L : List VB} {D : List DP} {b : Nat} {t : TypeId} {cs : List Value}
theorem Fr.newGe (h : Fr w0 w L D S) (hb : w.heap.size ≤ b) (hV : Vr w'.heap b t cs) (hE : Ext w w') : Fr w0 w' (⟨b, t, cs⟩ :: L) D S := by
  have h1 := h.exts hE
  refine ⟨h1.exs, fun v hv => ?_, List.pairwise_cons.2 ⟨fun v hv e => ?_, h.dist⟩, h1.data, fun v hv d hd => ?_⟩
  · rcases List.mem_cons.1 hv with rfl | hv
    · exact ⟨.inl (Nat.le_trans h.exs.size hb), hV⟩
    · exact h1.vars v hv
  · have := (h.vars v hv).2.lt
    simp only at e
    omega
  · rcases List.mem_cons.1 hv with rfl | hv
    · intro hk
      have := d.lt _ _ (h.data d hd) hk
      simp only at this
      omega
    · exact h.apart v hv d hd
end
section
variable {P : Program} {n : Nat} {σ : Store} {w : World} {fn : Func} {R : Ending → World → Prop}
theorem Held.cx {ty : TypeId} {b B : Nat} {e : TypeId} {cs : List Value} [hA : UAgg P ty] {z : Value} {sz b1 : Nat} [hS : USize P ty z sz b1] {w' : World} (hV : Vr w.heap b e cs) (hl : Nat.beq cs.length sz = true) (hc : Cx B w w') : Held P ty w' b (.agg cs.toArray) :=
  held_agg (e := e) (by unfold Vr at hV ⊢; exact (hc.cells _ _ hV rfl).trans hV) hl
end
class UFunc (P : Program) (t : TypeId) : Prop where
  out : ∃ a b c, P.underlying t = some (.func a b c)
section
variable {P : Program} {σ : Store} {H : Array Obj} {d : Option Tmp} {t : TypeId} {pos : String} {af : Array Edge} {gd : Option (Nat × Bool)}
end
end Go.Eng
namespace Go.Eng
open Go
class UPtr (P : Program) (t : TypeId) : Prop where
  out : ∃ e, P.underlying t = some (.pointer e)
section
variable {P : Program} {σ : Store} {H : Array Obj} {d : Option Tmp} {t : TypeId} {pos : String} {af : Array Edge} {gd : Option (Nat × Bool)}
theorem run_eql_p {P : Program} {t : TypeId} [hT : UPtr P t] (a : Option Addr) (w : World) : (Op.equal t (.pointer a) (.pointer none)).run P w = .ok a.isNone w := by
  obtain ⟨e, h⟩ := hT.out
  have h1 : ∀ n : Nat, (Op.equalIn (n + 1) t (.pointer a) (.pointer none)).run P w = .ok a.isNone w := fun n => by cases a <;> simp [Op.equalIn, run_underlying h]
  simp [Op.equal, Op.maxDepth, h1 9999]
theorem ev_eqlP {x y : Operand} {tx ty : TypeId} [hT : UPtr P tx] {a : Option Addr} {r : Bool} (hx : look σ x = some (.pointer a)) (hy : look σ y = some (.pointer none)) (h : a.isNone = r) : Ev P σ H ⟨d, .binOp .eql tx x y ty, t, pos, af, gd⟩ (.bool r) := by
  subst h
  unfold Ev
  intro ρ w hρ _
  have he : (eqGuard .eql tx x y (.pointer a) (.pointer none)).run P w = .ok () w := by unfold eqGuard; simp
  simp [execOp, hρ x _ hx, hρ y _ hy, he, binOp, run_eql_p]
end
section
variable {P : Program} {fn : Func} {R : Ending → World → Prop} {σ : Store} {w : World}
end
end Go.Eng
namespace Go.Eng
open Go Go.Proofs Go.NatM Go.RowKit Go.Proofs.YtlpheckjogphmaaGreat
instance : UPtr Tryz.prog 34 := ⟨_, Tryz.underlying34⟩
def ivA (x : IV) : Value := .agg #[.bool x.neg, .slice x.m.A x.m.n x.m.c]
def iv0 : IV := ⟨false, ⟨none, 0, 0, []⟩⟩
theorem iv0_gi (H : Array Obj) : GI H iv0 := ⟨⟨rfl, Nat.le_refl _, .inl rfl⟩, fun x hx => by cases hx⟩
def grc (r c : Nat) (m : Nat) : List Value := [.int .i64 (r : Int), .int .i64 (c : Int), .map (some m)]
abbrev GL := List ((Int × Int) × IV)
structure Gr (H : Array Obj) (g m r c : Nat) (l : GL) : Prop where
  cells : Vr H g 84 (grc r c m)
  mp : ∃ es k, H[m]? = some (.map es k) ∧ MpR spot ivA es k l
  vals : ∀ p ∈ l, LI H (ival p.2) p.2 ∧ p.2.m.n ≤ 16384
def dpCb (b : Nat) (t : TypeId) (cs : List Value) : DP := ⟨fun H => Vr H b t cs, fun k => k = b, fun _ _ h e => e ▸ h.lt, fun _ _ hd h => by
  unfold Vr at h ⊢
  exact (hd.block b _ _ _ h (.inl rfl)).trans h⟩
def dpGv (l : GL) : DP := ⟨fun H => ∀ p ∈ l, LI H (ival p.2) p.2 ∧ p.2.m.n ≤ 16384, fun _ => False, fun _ _ _ h => h.elim, fun _ _ hd h p hp => ⟨(h p hp).1.de hd, (h p hp).2⟩⟩
def dpGr (g m r c : Nat) (l : GL) : DP := ⟨fun H => Gr H g m r c l, fun k => k = g ∨ k = m, fun _ _ h e => by
  rcases e with rfl | rfl
  · exact h.cells.lt
  · obtain ⟨es, k, hm, _⟩ := h.mp
    exact (Array.getElem?_eq_some_iff.1 hm).1, fun _ _ hd h => ⟨by
  have h1 := h.cells
  unfold Vr at h1 ⊢
  exact (hd.block g _ _ _ h1 (.inl (.inl rfl))).trans h1, by
  obtain ⟨es, k, hm, hr⟩ := h.mp
  exact ⟨es, k, (hd.maps m _ hm rfl (.inr rfl)).trans hm, hr⟩, fun p hp => ⟨(h.vals p hp).1.de hd, (h.vals p hp).2⟩⟩⟩
section
variable {P : Program} {σ : Go.Eng.Store} {d : Option Tmp} {t : TypeId} {pos : String} {af : Array Edge} {gd : Option (Nat × Bool)} {S : Nat → Prop} {w0 w w' : World} {L : List VB} {D : List DP}
theorem ev_loadCb (hF : Fr w0 w L D S) {x : Operand} {ty e : TypeId} [hO : UOne P ty] {b o : Nat} {cs : List Value} {v : Value} (hx : Go.Eng.look σ x = some (.pointer (some ⟨b, o, none⟩))) (hm : dpCb b e cs ∈ D) (h : nthV cs o = some v) :
    Ev P σ w.heap ⟨d, .load ty x, t, pos, af, gd⟩ v := ev_loadV hx (hF.data _ hm) h
theorem Fr.refS (w : World) (S : Nat → Prop) : Fr w w [] [] S := ⟨Exs.refl _ _, fun _ h => (by cases h), List.Pairwise.nil, fun _ h => (by cases h), fun _ h => (by cases h)⟩
theorem Fr.mt (hF : Fr w0 w [] D S) (d : DP) (h : d.p w.heap) : Fr w0 w [] (d :: D) S := hF.add d h fun _ h => (by cases h)
theorem Gr.fr {g m r c : Nat} {l : GL} (h : Gr w.heap g m r c l) (S : Nat → Prop) : Fr w w [] [dpMp spot ivA m l, dpCb g 84 (grc r c m), dpGv l] S :=
  (((Fr.refS w S).mt (dpGv l) h.vals).mt (dpCb g 84 (grc r c m)) h.cells).mt (dpMp spot ivA m l) (by unfold dpMp; exact h.mp)
theorem Fr.gr {g m r c : Nat} {l : GL} (hF : Fr w0 w L D S) (h1 : dpMp spot ivA m l ∈ D) (h2 : dpCb g 84 (grc r c m) ∈ D) (h3 : dpGv l ∈ D) : Gr w.heap g m r c l := ⟨hF.data _ h2, hF.mp h1, hF.data _ h3⟩
theorem Fr.gv {l : GL} (hF : Fr w0 w L D S) (h : dpGv l ∈ D) : ∀ p ∈ l, LI w.heap (ival p.2) p.2 ∧ p.2.m.n ≤ 16384 := hF.data _ h
theorem Gr.ext {g m r c : Nat} {l : GL} (h : Gr w.heap g m r c l) (hE : Ext w w') : Gr w'.heap g m r c l := (dpGr g m r c l).st _ _ (DE.ext hE) h
theorem Fr.callX {x y : DP} {m : Nat} {o : Obj} (hF : Fr w0 w L (x :: D) S) (hE : Exs (fun k => k = m) w w') (ho : w.heap[m]? = some o) (hc : o.isCells = false) (hb : w0.heap.size ≤ m ∨ S m) (hfree : ∀ x ∈ D, ¬ x.fp m) (hy : y.p w'.heap) (hyf : ∀ k, y.fp k → x.fp k) :
    Fr w0 w' L (y :: D) S := by
  have hne : ∀ v ∈ L, v.b ≠ m := fun v hv e => by
    have h1 := (hF.vars v hv).2
    unfold Vr at h1
    rw [e, ho] at h1
    cases h1
    cases hc
  refine ⟨hF.exs.then hE fun i hi e => ?_, fun v hv => ⟨(hF.vars v hv).1, ?_⟩, hF.dist, fun d hd => ?_, fun v hv d hd => ?_⟩
  · subst e
    exact hb.elim (fun h => absurd hi (Nat.not_lt_of_le h)) id
  · have h1 := (hF.vars v hv).2
    have h2 := h1.lt
    unfold Vr at h1 ⊢
    rw [hE.block _ h2 (hne v hv)]; exact h1
  · rcases List.mem_cons.1 hd with rfl | hd
    · exact hy
    · refine d.st _ _ ⟨hE.size, fun k cs t y hk _ => hE.block k (Array.getElem?_eq_some_iff.1 hk).1 fun e => ?_, fun k o hk _ hf => hE.block k (Array.getElem?_eq_some_iff.1 hk).1 fun e => hfree d hd (e ▸ hf)⟩ (hF.data d (List.mem_cons_of_mem _ hd))
      rw [e, ho] at hk
      cases hk
      cases hc
  · rcases List.mem_cons.1 hd with rfl | hd
    · exact fun h => hF.apart v hv x (List.mem_cons_self ..) (hyf _ h)
    · exact hF.apart v hv d (List.mem_cons_of_mem _ hd)
theorem Fr.callMp {m : Nat} {l l' : GL} (hF : Fr w0 w L (dpMp spot ivA m l :: D) S) (hE : Exs (fun k => k = m) w w') (hb : w0.heap.size ≤ m ∨ S m) (hfree : ∀ x ∈ D, ¬ x.fp m) (hG : ∃ es k, w'.heap[m]? = some (.map es k) ∧ MpR spot ivA es k l') : Fr w0 w' L (dpMp spot ivA m l' :: D) S := by
  obtain ⟨es, k, hm, _⟩ := hF.mp (List.mem_cons_self ..)
  refine hF.callX hE hm rfl hb hfree (by unfold dpMp; exact hG) fun _ h => ?_
  unfold dpMp at h ⊢; exact h
theorem nfN {m : Nat} : ∀ x ∈ ([] : List DP), ¬ x.fp m := fun _ h => by cases h
theorem nfC {m : Nat} {d : DP} {D : List DP} (h : ¬ d.fp m) (k : ∀ x ∈ D, ¬ x.fp m) : ∀ x ∈ d :: D, ¬ x.fp m := fun x hx => by
  rcases List.mem_cons.1 hx with rfl | hx
  · exact h
  · exact k x hx
theorem nf_gv {l : GL} {m : Nat} : ¬ (dpGv l).fp m := fun h => h
theorem nf_gi {x : IV} {m : Nat} : ¬ (dpGI x).fp m := by unfold dpGI; exact fun h => h
theorem nf_li {x : IV} {z : Int} {m : Nat} : ¬ (dpLI z x).fp m := by unfold dpLI; exact fun h => h
theorem nf_sl {A : Option Addr} {n c : Nat} {l : List Nat} {m : Nat} : ¬ (dpSl A n c l).fp m := by unfold dpSl; exact fun h => h
theorem nf_cb {b m : Nat} {t : TypeId} {cs : List Value} (h : b ≠ m) : ¬ (dpCb b t cs).fp m := fun e => h e.symm
theorem nf_mp {K V : Type} {f : K → Value} {g : V → Value} {b m : Nat} {l : List (K × V)} (h : b ≠ m) : ¬ (dpMp f g b l).fp m := by unfold dpMp; exact fun e => h e.symm
theorem Gr.ne {H : Array Obj} {g m r c : Nat} {l : GL} (h : Gr H g m r c l) : g ≠ m := fun e => by
  have h3 := h.cells
  obtain ⟨es, k, h4, _⟩ := h.mp
  unfold Vr at h3
  rw [e, h4] at h3
  cases h3
end
attribute [irreducible] dpCb dpGv dpGr
end Go.Eng
namespace Go.Proofs.YtlpheckjogphmaaGreat
open Go Go.Eng Go.Proofs Go.NatM Go.RowKit
theorem in_ok (w : World) (i n : Int) : Cl Tryz.prog 38 #[.int .i64 i, .int .i64 n] w (fun e w' => e = .returned (.bool (decide (0 ≤ i ∧ i < n))) ∧ Ext w w') := by
  refine enter Tryz.func38 rfl rfl rfl ?_
  have hF := Fr.refl w
  repeat' (first | (refine TL.isOp ?_; first | (refine TL.isG ?_; first | refine TL.grun rfl rfl rfl ?_ | refine TL.gskip rfl rfl rfl rfl ?_) | (refine TL.isBin ?_; refine TL.cmpG rfl rfl rfl rfl (fun hc => ?_) (fun hc => ?_) <;> (try (first | (exfalso; omega) | exact absurd rfl hc))) | (apply TL.ev; (case hd => rfl); (case h => (first | exact ev_simple rfl)))) | (refine T.is ?_; first | refine T.seq ?_ | refine T.region ?_ | refine T.ret ?_) | (refine G.is ?_; first | refine G.next ?_) | refine TL.nil ?_)
  all_goals first | (rw [decide_eq_true (by omega)]; exact G.ret1 rfl rfl ⟨rfl, hF.ext⟩) | (rw [decide_eq_false (by omega)]; exact G.ret1 rfl rfl ⟨rfl, hF.ext⟩)
theorem in_t (w : World) (i n : Int) (h : 0 ≤ i ∧ i < n) : Cl Tryz.prog 38 #[.int .i64 i, .int .i64 n] w (fun e w' => e = .returned (.bool true) ∧ Ext w w') := by
  have := in_ok w i n; rwa [decide_eq_true h] at this
def big (x : IV) : Prop := 1048576 < bl (val x.m.l)
theorem long_ok (w : World) (x : IV) (g : GI w.heap x) (hn : x.m.n ≤ 1099511627776) (b : Bool) (hb : b = true ↔ big x) : Cl Tryz.prog 32 #[ivA x] w (fun e w' => e = .returned (.bool b) ∧ Ext w w') := by
  unfold big at hb
  obtain ⟨yn, ⟨A1, n1, c1, l1⟩⟩ := x
  obtain ⟨q, hq⟩ : ∃ q, bl (val l1) = q := ⟨_, rfl⟩
  have hs := g.s
  have hu := g.u
  dsimp only at hs hu hn hb
  have hbl := fun w1 (hE : Ext w w1) => (bitlen_ok w1.heap _ A1 n1 c1 l1 (hs.ext hE) hu (by omega)).cl
  rw [hq] at hbl hb
  refine enter Tryz.func32 rfl rfl rfl ?_
  have hF := Fr.refl w
  repeat' (first | (refine TL.isOp ?_; first | (refine TL.isCall ?_; refine TL.call rfl rfl ?_; first | (refine (hbl _ hF.ext).mono ?_; rintro _ w1 ⟨rfl, hE⟩; replace hF := hF.exts hE.ext; clear hE; refine Back.mk ?_)) | (refine TL.isBin ?_; refine TL.cmpG rfl rfl rfl rfl (fun hc => ?_) (fun hc => ?_) <;> (try (first | (exfalso; omega) | exact absurd rfl hc))) | (apply TL.ev; (case hd => rfl); (case h => (first | exact ev_simple rfl | (apply Ev.isLoad; first | exact ev_loadFr hF rfl (by refine ⟨?_, ?_⟩; (focus (repeat (first | exact InV.head | apply InV.tail))); rfl)) | exact ev_fieldAddr rfl))) | (refine TL.boxAFr hF (d := 1) (cs := [.bool yn, .slice A1 n1 c1]) rfl rfl ?_; clear hF; intro w1 b1 hF)) | (refine T.is ?_; first | refine T.seq ?_ | refine T.region ?_ | refine T.ret ?_) | (refine G.is ?_; first | refine G.next ?_) | refine TL.nil ?_)
  · have : b = true := hb.2 (by omega)
    subst this
    exact G.ret1 rfl rfl ⟨rfl, hF.ext⟩
  · have : b = false := by cases b with | false => rfl | true => have := hb.1 rfl; omega
    subst this
    exact G.ret1 rfl rfl ⟨rfl, hF.ext⟩
end Go.Proofs.YtlpheckjogphmaaGreat
namespace Go.Proofs.YtlpheckjogphmaaGreat
open Go Go.Eng Go.Proofs Go.NatM Go.RowKit
theorem elim_iv (o : Option IV) : o.elim (Value.agg #[.bool false, .slice none 0 0]) ivA = ivA (o.getD iv0) := by cases o <;> rfl
def RetG (w : World) (r c : Nat) (l : GL) (e : Ending) (w' : World) : Prop := ∃ g m, e = .returned (.pointer (some ⟨g, 0, none⟩)) ∧ Ext w w' ∧ w.heap.size ≤ g ∧ w.heap.size ≤ m ∧ Gr w'.heap g m r c l
theorem blank_ok (w : World) (r c : Nat) : Cl Tryz.prog 33 #[.int .i64 (r : Int), .int .i64 (c : Int)] w (RetG w r c []) := by
  refine enter Tryz.func33 rfl rfl rfl ?_
  have hF := Fr.refl w
  repeat' (first | (refine TL.isOp ?_; first | (apply TL.ev; (case hd => rfl); (case h => (first | exact ev_simple rfl | exact ev_buildX rfl rfl))) | (refine TL.makeMpFr spot ivA hF (d := 7) rfl ?_; have h7 := hF.exs.size; clear hF; intro w7 m7 hm7 hF; replace h7 := Nat.le_trans h7 (Nat.le_of_eq hm7.symm)) | (refine TL.boxAFr hF (d := 9) (cs := grc r c m7) rfl rfl ?_; clear hF; intro w9 b9 hF)) | (refine T.is ?_; first | refine T.seq ?_ | refine T.region ?_ | refine T.ret ?_) | (refine G.is ?_; first | refine G.next ?_) | refine TL.nil ?_)
  all_goals exact G.ret1 rfl rfl ⟨b9, m7, rfl, hF.ext, (hF.lo .head).elim id fun h => h.elim, h7, hF.var .head, hF.mp (by repeat (first | exact memH | apply memT)), fun p hp => by cases hp⟩
theorem gnew_ok (w : World) (r c : Nat) (h : r ≤ 1048576 ∧ c ≤ 1048576) : Cl Tryz.prog 24 #[.int .i64 (r : Int), .int .i64 (c : Int)] w (fun e w' => ∃ e', RetG w r c [] e' w' ∧ ∃ v, e' = .returned v ∧ e = .returned (.tuple #[v, .int .i64 0])) := by
  have h1 := fun w1 => in_t w1 (r : Int) 1048577 (by omega)
  have h2 := fun w1 => in_t w1 (c : Int) 1048577 (by omega)
  refine enter Tryz.func24 rfl rfl rfl ?_
  have hF := Fr.refl w
  repeat' (first | (refine TL.isOp ?_; first | (refine TL.isG ?_; first | refine TL.grun rfl rfl rfl ?_) | (refine TL.isCall ?_; refine TL.call rfl rfl ?_; first | (refine (h1 _).mono ?_; rintro _ wy ⟨rfl, hE⟩; replace hF := hF.exts hE; clear hE; refine Back.mk ?_) | (refine (h2 _).mono ?_; rintro _ wy ⟨rfl, hE⟩; replace hF := hF.exts hE; clear hE; refine Back.mk ?_) | (refine (blank_ok _ r c).mono ?_; rintro _ wy ⟨g, m, rfl, hE, hg, hm, hG⟩; have hz := hF.exs.size; replace hF := hF.exts hE; clear hE; refine Back.mk ?_)) | (apply TL.ev; (case hd => rfl); (case h => (first | exact ev_simple rfl)))) | (refine T.is ?_; first | refine T.seq ?_ | refine T.region ?_ | refine T.cond_f rfl ?_ | refine T.ret ?_ | refine T.skip ?_) | (refine G.is ?_; first | refine G.next ?_) | refine TL.nil ?_)
  all_goals exact G.ret2 rfl rfl rfl ⟨_, ⟨g, m, rfl, hF.ext, Nat.le_trans hz hg, Nat.le_trans hz hm, hG⟩, _, rfl, rfl⟩
theorem glen_ok (w : World) (g m r c : Nat) (l : GL) (hG : Gr w.heap g m r c l) : Cl Tryz.prog 25 #[.pointer (some ⟨g, 0, none⟩)] w (fun e w' => e = .returned (.int .i64 (l.length : Int)) ∧ Ext w w') := by
  have hF := Gr.fr hG fun _ => False
  clear hG
  refine enter Tryz.func25 rfl rfl rfl ?_
  repeat' (first | (refine TL.isOp ?_; first | (apply TL.ev; (case hd => rfl); (case h => (first | exact ev_simple rfl | (apply Ev.isBin; first | exact ev_eqlP rfl rfl rfl) | (apply Ev.isLoad; first | exact ev_loadCb hF rfl (by repeat (first | exact memH | apply memT)) rfl) | exact ev_fieldAddr rfl | exact ev_nilCheck rfl | exact ev_mlen hF rfl (by repeat (first | exact memH | apply memT)))))) | (refine T.is ?_; first | refine T.seq ?_ | refine T.region ?_ | refine T.cond_f rfl ?_ | refine T.ret ?_ | refine T.skip ?_) | (refine G.is ?_; first | refine G.next ?_) | refine TL.nil ?_)
  all_goals exact G.ret1 rfl rfl ⟨rfl, hF.ext⟩
end Go.Proofs.YtlpheckjogphmaaGreat
namespace Go.Eng
open Go Go.Proofs Go.NatM Go.RowKit Go.Proofs.YtlpheckjogphmaaGreat
section
variable {S : Nat → Prop} {w0 w w' : World} {L : List VB} {D : List DP}
theorem Gr.frD {g m r c : Nat} {l : GL} (h : Gr w.heap g m r c l) (hF : Fr w0 w [] D S) : Fr w0 w [] (dpMp spot ivA m l :: dpCb g 84 (grc r c m) :: dpGv l :: D) S :=
  ((Fr.mt hF (dpGv l) (by unfold dpGv; exact h.vals)).mt (dpCb g 84 (grc r c m)) (by unfold dpCb; exact h.cells)).mt (dpMp spot ivA m l) (by unfold dpMp; exact h.mp)
theorem ups_mem {K V : Type} [DecidableEq K] : ∀ {l : List (K × V)} {x : K} {v : V} {p : K × V}, p ∈ ups l x v → p = (x, v) ∨ p ∈ l
  | [], x, v, p, h => .inl (by simpa [ups] using h)
  | (y, u) :: l, x, v, p, h => by
    unfold ups at h
    split at h
    · rcases List.mem_cons.1 h with h | h
      · exact .inl h
      · exact .inr (List.mem_cons_of_mem _ h)
    · rcases List.mem_cons.1 h with h | h
      · exact .inr (h ▸ List.mem_cons_self ..)
      · exact (ups_mem h).imp id (List.mem_cons_of_mem _)
theorem Fr.grU {g m r c : Nat} {l : GL} {q : Int × Int} {x : IV} {z : Int} (hF : Fr w0 w L D S) (h1 : dpMp spot ivA m (ups l q x) ∈ D) (h2 : dpCb g 84 (grc r c m) ∈ D) (h3 : dpGv l ∈ D) (h4 : dpLI z x ∈ D) (h5 : x.m.n ≤ 16384) : Gr w.heap g m r c (ups l q x) :=
  ⟨(by have := hF.data _ h2; unfold dpCb at this; exact this), hF.mp h1, fun p hp => (by
    rcases ups_mem hp with rfl | hp
    · have h6 := hF.data _ h4
      unfold dpLI at h6
      have h7 : LI w.heap z x := h6
      exact ⟨h7.val.symm ▸ h7, h5⟩
    · have h6 := hF.data _ h3
      unfold dpGv at h6
      exact h6 p hp)⟩
theorem Fr.grD {g m r c : Nat} {l : GL} {q : Int × Int} (hF : Fr w0 w L D S) (h1 : dpMp spot ivA m (del l q) ∈ D) (h2 : dpCb g 84 (grc r c m) ∈ D) (h3 : dpGv l ∈ D) : Gr w.heap g m r c (del l q) :=
  ⟨(by have := hF.data _ h2; unfold dpCb at this; exact this), hF.mp h1, fun p hp => (by
    have h6 := hF.data _ h3
    unfold dpGv at h6
    exact h6 p ((del_sub l q).subset hp))⟩
end
end Go.Eng
namespace Go.Proofs.YtlpheckjogphmaaGreat
open Go Go.Eng Go.Proofs Go.NatM Go.RowKit
def RetW (w : World) (g m r c : Nat) (l : GL) (v : Value) (e : Ending) (w' : World) : Prop := e = .returned v ∧ Exs (fun k => k = m) w w' ∧ Gr w'.heap g m r c l
theorem gput_put (w : World) (g m r c : Nat) (l : GL) (p : Int × Int) (x : IV) (z : Int) (hG : Gr w.heap g m r c l) (hx : LI w.heap z x) (hn : x.m.n ≤ 16384) (hz : z ≠ 0) :
    Cl Tryz.prog 35 #[.pointer (some ⟨g, 0, none⟩), spot p, ivA x] w (RetW w g m r c (ups l p x) (.tuple #[])) := by
  have hF := Gr.frD hG (Fr.mt (Fr.refS w fun k => k = m) (dpLI z x) (by unfold dpLI; exact hx))
  have hgm := hG.ne
  have hv := hx.val
  have hs : sig (ival x) ≠ 0 := by rw [hv]; unfold sig; (repeat' split) <;> first | decide | omega
  have hsg := fun w1 (g1 : GI w1.heap x) => zsign_ok w1 x g1 (by omega)
  generalize sig (ival x) = sg at hs hsg
  clear hG hx hv
  obtain ⟨p1, p2⟩ := p
  obtain ⟨xn, ⟨xA, xk, xc, xl⟩⟩ := x
  dsimp only at hn
  refine enter Tryz.func35 rfl rfl rfl ?_
  repeat' (first | (refine TL.isOp ?_; first | (refine TL.isCall ?_; refine TL.call rfl rfl ?_; first | (refine (hsg _ (Fr.li hF (by repeat (first | exact memH | apply memT))).g).mono ?_; rintro _ wy ⟨rfl, hE⟩; replace hF := hF.exts hE; clear hE; refine Back.mk ?_)) | (refine TL.isBin ?_; refine TL.cmpG rfl rfl rfl rfl (fun hc => ?_) (fun hc => ?_) <;> (try (first | (exfalso; omega) | exact absurd rfl hc))) | (apply TL.ev; (case hd => rfl); (case h => (first | (apply Ev.isLoad; first | exact ev_loadAFr hF rfl (by refine ⟨?_, ?_⟩; (focus (repeat (first | exact InV.head | apply InV.tail))); rfl))))) | (refine TL.boxAFr hF (d := 4) (cs := [.int .i64 p1, .int .i64 p2]) rfl rfl ?_; clear hF; intro w4 b4 hF) | (refine TL.boxAFr hF (d := 5) (cs := [.bool xn, .slice xA xk xc]) rfl rfl ?_; clear hF; intro w5 b5 hF) | (refine TL.mupd hF (.inr rfl) (nfC (nf_cb hgm) (nfC nf_gv (nfC nf_li nfN))) (q := (p1, p2)) (v := ⟨xn, ⟨xA, xk, xc, xl⟩⟩) rfl rfl rfl ?_; clear hF; intro wu hF)) | (refine TF.is ?_; first | refine TF.nil ?_ | refine TF.e rfl ?_ | (refine TF.pick rfl ?_; first | (apply TFo.ev; (case hd => rfl); (case h => (intro wh hF; first | exact ev_simple rfl | (apply Ev.isLoad; first | exact ev_loadAFr hF rfl (by refine ⟨?_, ?_⟩; (focus (repeat (first | exact InV.head | apply InV.tail))); rfl) | exact ev_loadCb hF rfl (by repeat (first | exact memH | apply memT)) rfl) | exact ev_fieldAddr rfl | exact ev_nilCheck rfl))))) | (refine T.is ?_; first | refine T.seq ?_ | refine T.region ?_ | refine T.cond_f rfl ?_ | refine T.skip ?_ | (refine T.regionFr hF 3 6 (.s 0 (.s 1 (.s 2 (.s 3 (.s 4 (.s 5 (.e 6 .nil))))))) mixed (by kernel_rfl) ?_; clear hF; intro wr hF)) | (refine G.is ?_; first | refine G.next ?_ | refine G.only ?_ | refine G.treeEnd rfl ?_) | refine TL.nil ?_)
  all_goals exact G.end0 rfl ⟨rfl, hF.exs, hF.grU (by repeat (first | exact memH | apply memT)) (by repeat (first | exact memH | apply memT)) (by repeat (first | exact memH | apply memT)) (by repeat (first | exact memH | apply memT)) hn⟩
theorem gput_zero (w : World) (g m r c : Nat) (l : GL) (p : Int × Int) (x : IV) (hG : Gr w.heap g m r c l) (hx : LI w.heap 0 x) (hn : x.m.n ≤ 16384) :
    Cl Tryz.prog 35 #[.pointer (some ⟨g, 0, none⟩), spot p, ivA x] w (RetW w g m r c (del l p) (.tuple #[])) := by
  have hF := Gr.frD hG (Fr.mt (Fr.refS w fun k => k = m) (dpLI 0 x) (by unfold dpLI; exact hx))
  have hgm := hG.ne
  have hv := hx.val
  have hsg := fun w1 (g1 : GI w1.heap x) => zsign_ok w1 x g1 (by omega)
  rw [hv] at hsg
  clear hG hx hv
  obtain ⟨p1, p2⟩ := p
  obtain ⟨xn, ⟨xA, xk, xc, xl⟩⟩ := x
  dsimp only at hn
  refine enter Tryz.func35 rfl rfl rfl ?_
  repeat' (first | (refine TL.isOp ?_; first | (refine TL.isCall ?_; refine TL.call rfl rfl ?_; first | (refine (hsg _ (Fr.li hF (by repeat (first | exact memH | apply memT))).g).mono ?_; rintro _ wy ⟨rfl, hE⟩; replace hF := hF.exts hE; clear hE; refine Back.mk ?_)) | (refine TL.isBin ?_; refine TL.cmpG rfl rfl rfl rfl (fun hc => ?_) (fun hc => ?_) <;> (try (first | (exfalso; omega) | exact absurd rfl hc))) | (apply TL.ev; (case hd => rfl); (case h => (first | (apply Ev.isLoad; first | exact ev_loadAFr hF rfl (by refine ⟨?_, ?_⟩; (focus (repeat (first | exact InV.head | apply InV.tail))); rfl))))) | (refine TL.boxAFr hF (d := 4) (cs := [.int .i64 p1, .int .i64 p2]) rfl rfl ?_; clear hF; intro w4 b4 hF) | (refine TL.boxAFr hF (d := 5) (cs := [.bool xn, .slice xA xk xc]) rfl rfl ?_; clear hF; intro w5 b5 hF) | (refine TL.mdel hF (.inr rfl) (nfC (nf_cb hgm) (nfC nf_gv (nfC nf_li nfN))) (q := (p1, p2)) rfl rfl ?_; clear hF; intro wu hF)) | (refine TF.is ?_; first | refine TF.nil ?_ | refine TF.e rfl ?_ | (refine TF.pick rfl ?_; first | (apply TFo.ev; (case hd => rfl); (case h => (intro wh hF; first | exact ev_simple rfl | (apply Ev.isLoad; first | exact ev_loadAFr hF rfl (by refine ⟨?_, ?_⟩; (focus (repeat (first | exact InV.head | apply InV.tail))); rfl) | exact ev_loadCb hF rfl (by repeat (first | exact memH | apply memT)) rfl) | exact ev_fieldAddr rfl | exact ev_nilCheck rfl))))) | (refine T.is ?_; first | refine T.seq ?_ | refine T.region ?_ | refine T.cond_t rfl ?_ | refine T.ret ?_ | (refine T.regionFr hF 2 5 (.s 0 (.s 1 (.s 2 (.s 3 (.s 4 (.e 5 .nil)))))) mixed (by kernel_rfl) ?_; clear hF; intro wr hF)) | (refine G.is ?_; first | refine G.next ?_ | refine G.thenR ?_ | refine G.only ?_ | refine G.treeEnd rfl ?_) | refine TL.nil ?_)
  all_goals exact G.ret0 rfl ⟨rfl, hF.exs, hF.grD (by repeat (first | exact memH | apply memT)) (by repeat (first | exact memH | apply memT)) (by repeat (first | exact memH | apply memT))⟩
theorem words_bl {n k : Nat} (h : bl n ≤ 64 * k) : (dig n).length ≤ k := by
  have h1 := bl_le.1 h
  rw [Nat.pow_mul] at h1
  exact NatM.dig_length_le h1
theorem LI.few {H : Array Obj} {x y : IV} (h : LI H (ival x) y) (hb : ¬ big x) : y.m.n ≤ 16384 := by
  have h1 : (ival x).natAbs = NatM.val x.m.l := by unfold ival; exact sgn_abs ..
  rw [← h.g.s.len, h.d, h1]
  refine words_bl ?_
  unfold big at hb
  omega
def at0 (l : GL) (p : Int × Int) : IV := (lkp l p).getD iv0
theorem gv_at {w : World} {l : GL} (h : ∀ p ∈ l, LI w.heap (ival p.2) p.2 ∧ p.2.m.n ≤ 16384) (p : Int × Int) : GI w.heap (at0 l p) ∧ (at0 l p).m.n ≤ 16384 := by
  unfold at0
  cases hq : lkp l p with
  | none => exact ⟨iv0_gi _, Nat.zero_le _⟩
  | some y => have := h _ (lkp_mem hq); exact ⟨this.1.g, this.2⟩
section
variable {P : Program} {σ : Go.Eng.Store} {do_ : Option Tmp} {t : TypeId} {pos : String} {af : Array Edge} {gd : Option (Nat × Bool)} {S : Nat → Prop} {w0 w w' : World} {L : List VB} {D : List DP}
theorem ev_mlookI (hF : Fr w0 w L D S) {x i : Operand} {ty k e : TypeId} [hT : UMap P ty k e] [hK : UKey P k (Int × Int) spot] {sz b1 b : Nat} [hS : USize P e (.agg #[.bool false, .slice none 0 0]) sz b1] {l : GL} {y : Int × Int} (hx : Go.Eng.look σ x = some (.map (some b))) (hi : Go.Eng.look σ i = some (spot y)) (hm : dpMp spot ivA b l ∈ D) :
    Ev P σ w.heap ⟨do_, .lookup ty x i false, t, pos, af, gd⟩ (ivA (at0 l y)) := by
  have := ev_mlook (do_ := do_) (t := t) (pos := pos) (af := af) (gd := gd) (ty := ty) (P := P) hF hx hi hm
  rwa [elim_iv] at this
theorem ev_mlookOkI (hF : Fr w0 w L D S) {x i : Operand} {ty k e : TypeId} [hT : UMap P ty k e] [hK : UKey P k (Int × Int) spot] {sz b1 b : Nat} [hS : USize P e (.agg #[.bool false, .slice none 0 0]) sz b1] {l : GL} {y : Int × Int} {r : Bool} (hx : Go.Eng.look σ x = some (.map (some b))) (hi : Go.Eng.look σ i = some (spot y)) (hm : dpMp spot ivA b l ∈ D) (hr : (lkp l y).isSome = r) :
    Ev P σ w.heap ⟨do_, .lookup ty x i true, t, pos, af, gd⟩ (.tuple #[ivA (at0 l y), .bool r]) := by
  have := ev_mlookOk (do_ := do_) (t := t) (pos := pos) (af := af) (gd := gd) (ty := ty) (P := P) hF hx hi hm
  rwa [elim_iv, hr] at this
theorem Fr.addGv (h : Fr w0 w L D S) {l : GL} (k : ∀ p ∈ l, LI w.heap (ival p.2) p.2 ∧ p.2.m.n ≤ 16384) : Fr w0 w L (dpGv l :: D) S := h.add _ (by unfold dpGv; exact k) fun _ _ h => nf_gv h
end
def RetZI (w : World) (z : Int) (er : Int) (e : Ending) (w' : World) : Prop := ∃ x : IV, e = .returned (.tuple #[ivA x, .int .i64 er]) ∧ LI w'.heap z x ∧ Ext w w' ∧ x.m.n ≤ 16384
theorem gget_ok (w : World) (g m r c : Nat) (l : GL) (p1 p2 : Int) (hG : Gr w.heap g m r c l) (hp : (0 ≤ p1 ∧ p1 < (r : Int)) ∧ (0 ≤ p2 ∧ p2 < (c : Int))) :
    Cl Tryz.prog 21 #[.pointer (some ⟨g, 0, none⟩), .int .i64 p1, .int .i64 p2] w (RetZI w (ival (at0 l (p1, p2))) 0) := by
  obtain ⟨hX, hn⟩ := gv_at hG.vals (p1, p2)
  have hF := Gr.frD hG (Fr.mt (Fr.refS w fun _ => False) (dpGI (at0 l (p1, p2))) (by unfold dpGI; exact hX))
  clear hG hX
  have h1 := fun w1 => in_t w1 p1 r hp.1
  have h2 := fun w1 => in_t w1 p2 c hp.2
  have hz := fun w1 (g1 : GI w1.heap (at0 l (p1, p2))) => zleast_ok w1 _ g1 (by omega)
  clear hp
  refine enter Tryz.func21 rfl rfl rfl ?_
  repeat' (first | (refine TL.isOp ?_; first | (refine TL.isG ?_; first | refine TL.grun rfl rfl rfl ?_) | (refine TL.isCall ?_; refine TL.call rfl rfl ?_; first | (refine (h1 _).mono ?_; rintro _ wy ⟨rfl, hE⟩; replace hF := hF.exts hE; clear hE; refine Back.mk ?_) | (refine (h2 _).mono ?_; rintro _ wy ⟨rfl, hE⟩; replace hF := hF.exts hE; clear hE; refine Back.mk ?_) | (refine (hz _ (Fr.gi hF (by repeat (first | exact memH | apply memT)))).mono ?_; rintro _ wy ⟨y, rfl, hy, hE, hyn⟩; replace hF := Fr.addLI (hF.exts hE) hy; clear hE hy; refine Back.mk ?_)) | (apply TL.ev; (case hd => rfl); (case h => (first | exact ev_simple rfl | (apply Ev.isBin; first | exact ev_eqlP rfl rfl rfl) | (apply Ev.isLoad; first | exact ev_loadCb hF rfl (by repeat (first | exact memH | apply memT)) rfl) | exact ev_fieldAddr rfl | exact ev_buildX rfl rfl | exact ev_nilCheck rfl | exact ev_mlookI hF (y := (p1, p2)) rfl rfl (by repeat (first | exact memH | apply memT))))) | (refine TL.storeAFr hF rfl rfl rfl rfl (by refine ⟨?_, ?_⟩; (focus (repeat (first | apply SetV.head | apply SetV.tail))); rfl) rfl ?_; clear hF; intro ws hF) | (refine TL.allocFr hF (d := 6) rfl rfl ?_; clear hF; intro w6 b6 hF)) | (refine T.is ?_; first | refine T.seq ?_ | refine T.region ?_ | refine T.cond_f rfl ?_ | refine T.ret ?_ | refine T.skip ?_) | (refine G.is ?_; first | refine G.next ?_) | refine TL.nil ?_)
  all_goals exact G.retC2 rfl rfl rfl (held_agg (hF.var (by repeat (first | exact InV.head | apply InV.tail))) rfl) ⟨y, rfl, Fr.li hF (by repeat (first | exact memH | apply memT)), hF.ext, Nat.le_trans hyn hn⟩
end Go.Proofs.YtlpheckjogphmaaGreat
namespace Go.Proofs.YtlpheckjogphmaaGreat
open Go Go.Eng Go.Proofs Go.NatM Go.RowKit
def GLarge (l : GL) (p : Int × Int) (x : IV) : Prop := big x ∨ (lkp l p).isSome = false ∧ ival x ≠ 0 ∧ 4096 ≤ l.length
theorem sig_ne {z : Int} (hz : z ≠ 0) : sig z ≠ 0 := by unfold sig; (repeat' split) <;> first | decide | omega
theorem gset_large (w : World) (g m r c : Nat) (l : GL) (p1 p2 : Int) (x : IV) (hG : Gr w.heap g m r c l) (hp : (0 ≤ p1 ∧ p1 < (r : Int)) ∧ (0 ≤ p2 ∧ p2 < (c : Int))) (hx : GI w.heap x) (hxn : x.m.n ≤ 1099511627776) (hl : GLarge l (p1, p2) x) :
    Cl Tryz.prog 12 #[.pointer (some ⟨g, 0, none⟩), .int .i64 p1, .int .i64 p2, ivA x] w (fun e w' => e = .returned (.int .i64 5) ∧ Ext w w') := by
  have hF := Gr.frD hG (Fr.mt (Fr.refS w fun _ => False) (dpGI x) (by unfold dpGI; exact hx))
  clear hG
  have h1 := fun w1 => in_t w1 p1 r hp.1
  have h2 := fun w1 => in_t w1 p2 c hp.2
  have hsg := fun w1 (g1 : GI w1.heap x) => zsign_ok w1 x g1 (by omega)
  obtain ⟨b, hb⟩ : ∃ b, (lkp l (p1, p2)).isSome = b := ⟨_, rfl⟩
  generalize hs : sig (ival x) = sg at hsg
  by_cases hbig : big x
  · have hlong := fun w1 (g1 : GI w1.heap x) => long_ok w1 x g1 (by omega) true ⟨fun _ => hbig, fun _ => rfl⟩
    clear hp hx hl hs
    obtain ⟨xn, ⟨xA, xk, xc, xl⟩⟩ := x
    refine enter Tryz.func12 rfl rfl rfl ?_
    repeat' (first | (refine TL.isOp ?_; first | (refine TL.isG ?_; first | refine TL.grun rfl rfl rfl ?_) | (refine TL.isCall ?_; refine TL.call rfl rfl ?_; first | (refine (h1 _).mono ?_; rintro _ wy ⟨rfl, hE⟩; replace hF := hF.exts hE; clear hE; refine Back.mk ?_) | (refine (h2 _).mono ?_; rintro _ wy ⟨rfl, hE⟩; replace hF := hF.exts hE; clear hE; refine Back.mk ?_) | (refine (hlong _ (Fr.gi hF (by repeat (first | exact memH | apply memT)))).mono ?_; rintro _ wy ⟨rfl, hE⟩; replace hF := hF.exts hE; clear hE; refine Back.mk ?_)) | (apply TL.ev; (case hd => rfl); (case h => (first | exact ev_simple rfl | (apply Ev.isBin; first | exact ev_eqlP rfl rfl rfl) | (apply Ev.isLoad; first | exact ev_loadAFr hF rfl (by refine ⟨?_, ?_⟩; (focus (repeat (first | exact InV.head | apply InV.tail))); rfl) | exact ev_loadCb hF rfl (by repeat (first | exact memH | apply memT)) rfl) | exact ev_fieldAddr rfl | exact ev_buildX rfl rfl | exact ev_nilCheck rfl | exact ev_mlookOkI hF (y := (p1, p2)) rfl rfl (by repeat (first | exact memH | apply memT)) hb))) | (refine TL.storeAFr hF rfl rfl rfl rfl (by refine ⟨?_, ?_⟩; (focus (repeat (first | apply SetV.head | apply SetV.tail))); rfl) rfl ?_; clear hF; intro ws hF) | (refine TL.boxAFr hF (d := 7) (cs := [.bool xn, .slice xA xk xc]) rfl rfl ?_; clear hF; intro w7 b7 hF) | (refine TL.allocFr hF (d := 9) rfl rfl ?_; clear hF; intro w9 b9 hF) | (refine TL.allocFr hF (d := 10) rfl rfl ?_; clear hF; intro w10 b10 hF)) | (refine TF.is ?_; first | refine TF.nil ?_ | refine TF.e rfl ?_ | refine TF.alt ?_ ?_ | (refine TF.pick rfl ?_; first | (apply TFo.ev; (case hd => rfl); (case h => (intro wh hF; first | exact ev_simple rfl | (apply Ev.isLoad; first | exact ev_loadAFr hF rfl (by refine ⟨?_, ?_⟩; (focus (repeat (first | exact InV.head | apply InV.tail))); rfl) | exact ev_loadCb hF rfl (by repeat (first | exact memH | apply memT)) rfl) | exact ev_fieldAddr rfl | exact ev_nilCheck rfl))))) | (refine T.is ?_; first | refine T.seq ?_ | refine T.region ?_ | refine T.cond_t rfl ?_ | refine T.cond_f rfl ?_ | refine T.ret ?_ | refine T.skip ?_ | (refine T.regionFr hF 4 12 (.s 0 (.s 1 (.s 2 (.s 3 (.s 4 (.alt (.e 5 (.s 6 (.s 7 (.s 8 (.e 9 (.e 10 (.s 11 .nil))))))) (.e 9 (.e 5 (.s 6 (.s 7 (.s 8 (.e 10 (.s 11 .nil))))))))))))) mixed (by kernel_rfl) ?_; clear hF; intro wr hF)) | (refine G.is ?_; first | refine G.next ?_ | refine G.thenR ?_ | refine G.only ?_ | refine G.tree rfl (by first | exact hF | exact hF.weak (List.sublist_append_right _ _) (by repeat (first | exact allR | apply allT)) | exact hF.weak (by repeat (first | exact List.Sublist.refl _ | apply List.Sublist.cons)) (by repeat (first | exact allR | apply allT)) | exact hF.weak (by repeat (first | exact List.Sublist.refl _ | apply List.Sublist.cons)) (by repeat (first | exact allN | refine allH (by repeat (first | exact memH | apply memT)) ?_))) ?_) | refine TL.nil ?_)
    all_goals exact G.ret1 rfl rfl ⟨rfl, hF.ext⟩
  · have hlong := fun w1 (g1 : GI w1.heap x) => long_ok w1 x g1 (by omega) false ⟨fun h => (by cases h), fun h => absurd h hbig⟩
    have hl2 := hl.resolve_left hbig
    have hsz : sg ≠ 0 := by rw [← hs]; exact sig_ne hl2.2.1
    have hb2 : b = false := hb.symm.trans hl2.1
    subst hb2
    have hlen := hl2.2.2
    clear hp hx hl hs hl2
    obtain ⟨xn, ⟨xA, xk, xc, xl⟩⟩ := x
    refine enter Tryz.func12 rfl rfl rfl ?_
    repeat' (first | (refine TL.isOp ?_; first | (refine TL.isG ?_; first | refine TL.grun rfl rfl rfl ?_) | (refine TL.isCall ?_; refine TL.call rfl rfl ?_; first | (refine (h1 _).mono ?_; rintro _ wy ⟨rfl, hE⟩; replace hF := hF.exts hE; clear hE; refine Back.mk ?_) | (refine (h2 _).mono ?_; rintro _ wy ⟨rfl, hE⟩; replace hF := hF.exts hE; clear hE; refine Back.mk ?_) | (refine (hlong _ (Fr.gi hF (by repeat (first | exact memH | apply memT)))).mono ?_; rintro _ wy ⟨rfl, hE⟩; replace hF := hF.exts hE; clear hE; refine Back.mk ?_) | (refine (hsg _ (Fr.gi hF (by repeat (first | exact memH | apply memT)))).mono ?_; rintro _ wy ⟨rfl, hE⟩; replace hF := hF.exts hE; clear hE; refine Back.mk ?_)) | (refine TL.isBin ?_; refine TL.cmpG rfl rfl rfl rfl (fun hc => ?_) (fun hc => ?_) <;> (try (first | (exfalso; omega) | exact absurd rfl hc))) | (apply TL.ev; (case hd => rfl); (case h => (first | exact ev_simple rfl | (apply Ev.isBin; first | exact ev_eqlP rfl rfl rfl) | (apply Ev.isLoad; first | exact ev_loadAFr hF rfl (by refine ⟨?_, ?_⟩; (focus (repeat (first | exact InV.head | apply InV.tail))); rfl) | exact ev_loadCb hF rfl (by repeat (first | exact memH | apply memT)) rfl) | exact ev_fieldAddr rfl | exact ev_buildX rfl rfl | exact ev_nilCheck rfl | exact ev_mlookOkI hF (y := (p1, p2)) rfl rfl (by repeat (first | exact memH | apply memT)) hb | exact ev_mlen hF rfl (by repeat (first | exact memH | apply memT))))) | (refine TL.storeAFr hF rfl rfl rfl rfl (by refine ⟨?_, ?_⟩; (focus (repeat (first | apply SetV.head | apply SetV.tail))); rfl) rfl ?_; clear hF; intro ws hF) | (refine TL.boxAFr hF (d := 7) (cs := [.bool xn, .slice xA xk xc]) rfl rfl ?_; clear hF; intro w7 b7 hF) | (refine TL.allocFr hF (d := 9) rfl rfl ?_; clear hF; intro w9 b9 hF) | (refine TL.allocFr hF (d := 10) rfl rfl ?_; clear hF; intro w10 b10 hF)) | (refine TF.is ?_; first | refine TF.nil ?_ | refine TF.e rfl ?_ | refine TF.alt ?_ ?_ | (refine TF.pick rfl ?_; first | (apply TFo.ev; (case hd => rfl); (case h => (intro wh hF; first | exact ev_simple rfl | (apply Ev.isLoad; first | exact ev_loadAFr hF rfl (by refine ⟨?_, ?_⟩; (focus (repeat (first | exact InV.head | apply InV.tail))); rfl) | exact ev_loadCb hF rfl (by repeat (first | exact memH | apply memT)) rfl) | exact ev_fieldAddr rfl | exact ev_nilCheck rfl))))) | (refine T.is ?_; first | refine T.seq ?_ | refine T.region ?_ | refine T.cond_t rfl ?_ | refine T.cond_f rfl ?_ | refine T.ret ?_ | refine T.skip ?_ | (refine T.regionFr hF 4 12 (.s 0 (.s 1 (.s 2 (.s 3 (.s 4 (.alt (.e 5 (.s 6 (.s 7 (.s 8 (.e 9 (.e 10 (.s 11 .nil))))))) (.e 9 (.e 5 (.s 6 (.s 7 (.s 8 (.e 10 (.s 11 .nil))))))))))))) mixed (by kernel_rfl) ?_; clear hF; intro wr hF)) | (refine G.is ?_; first | refine G.next ?_ | refine G.thenR ?_ | refine G.only ?_ | refine G.tree rfl (by first | exact hF | exact hF.weak (List.sublist_append_right _ _) (by repeat (first | exact allR | apply allT)) | exact hF.weak (by repeat (first | exact List.Sublist.refl _ | apply List.Sublist.cons)) (by repeat (first | exact allR | apply allT)) | exact hF.weak (by repeat (first | exact List.Sublist.refl _ | apply List.Sublist.cons)) (by repeat (first | exact allN | refine allH (by repeat (first | exact memH | apply memT)) ?_))) ?_) | refine TL.nil ?_)
    all_goals exact G.ret1 rfl rfl ⟨rfl, hF.ext⟩
theorem Fr.swapD {S : Nat → Prop} {w0 w : World} {L : List VB} {a b : DP} {D : List DP} (h : Fr w0 w L (a :: b :: D) S) : Fr w0 w L (b :: a :: D) S :=
  h.weak (List.Sublist.refl _) fun d hd => by
    simp only [List.mem_cons] at hd ⊢
    rcases hd with h | h | h
    · exact .inr (.inl h)
    · exact .inl h
    · exact .inr (.inr h)
theorem gset_put (w : World) (g m r c : Nat) (l : GL) (p1 p2 : Int) (x : IV) (hG : Gr w.heap g m r c l) (hp : (0 ≤ p1 ∧ p1 < (r : Int)) ∧ (0 ≤ p2 ∧ p2 < (c : Int))) (hx : GI w.heap x) (hxn : x.m.n ≤ 1099511627776) (hl : ¬ GLarge l (p1, p2) x) (hz : ival x ≠ 0) :
    Cl Tryz.prog 12 #[.pointer (some ⟨g, 0, none⟩), .int .i64 p1, .int .i64 p2, ivA x] w (fun e w' => ∃ y, LI w'.heap (ival x) y ∧ RetW w g m r c (ups l (p1, p2) y) (.int .i64 0) e w') := by
  have hF := Gr.frD hG (Fr.mt (Fr.refS w fun k => k = m) (dpGI x) (by unfold dpGI; exact hx))
  have hgm := hG.ne
  clear hG
  have h1 := fun w1 => in_t w1 p1 r hp.1
  have h2 := fun w1 => in_t w1 p2 c hp.2
  have hsg := fun w1 (g1 : GI w1.heap x) => zsign_ok w1 x g1 (by omega)
  obtain ⟨b, hb⟩ : ∃ b, (lkp l (p1, p2)).isSome = b := ⟨_, rfl⟩
  have hbig : ¬ big x := fun h => hl (.inl h)
  have hlen : b = false → l.length < 4096 := fun h => by
    refine Nat.lt_of_not_le fun h' => hl (.inr ⟨hb.trans h, hz, h'⟩)
  have hlong := fun w1 (g1 : GI w1.heap x) => long_ok w1 x g1 (by omega) false ⟨fun h => (by cases h), fun h => absurd h hbig⟩
  have hzl := fun w1 (g1 : GI w1.heap x) => zleast_ok w1 x g1 (by omega)
  have hfew : ∀ (H : Array Obj) y, LI H (ival x) y → y.m.n ≤ 16384 := fun H y h => h.few hbig
  generalize hs : sig (ival x) = sg at hsg
  have hsz : sg ≠ 0 := by rw [← hs]; exact sig_ne hz
  generalize ival x = z at *
  clear hp hx hl hs hbig
  obtain ⟨xn, ⟨xA, xk, xc, xl⟩⟩ := x
  refine enter Tryz.func12 rfl rfl rfl ?_
  cases b
  · have hlen := hlen rfl
    repeat' (first | (refine TL.isOp ?_; first | (refine TL.isG ?_; first | refine TL.grun rfl rfl rfl ?_) | (refine TL.isCall ?_; refine TL.call rfl rfl ?_; first | (refine (h1 _).mono ?_; rintro _ wy ⟨rfl, hE⟩; replace hF := hF.exts hE; clear hE; refine Back.mk ?_) | (refine (h2 _).mono ?_; rintro _ wy ⟨rfl, hE⟩; replace hF := hF.exts hE; clear hE; refine Back.mk ?_) | (refine (hlong _ (Fr.gi hF (by repeat (first | exact memH | apply memT)))).mono ?_; rintro _ wy ⟨rfl, hE⟩; replace hF := hF.exts hE; clear hE; refine Back.mk ?_) | (refine (hsg _ (Fr.gi hF (by repeat (first | exact memH | apply memT)))).mono ?_; rintro _ wy ⟨rfl, hE⟩; replace hF := hF.exts hE; clear hE; refine Back.mk ?_) | (refine (hzl _ (Fr.gi hF (by repeat (first | exact memH | apply memT)))).mono ?_; rintro _ wy ⟨y, rfl, hy, hE, hyn⟩; replace hF := Fr.addLI (hF.exts hE) hy; clear hE hyn hy; refine Back.mk ?_) | (refine (gput_put _ g m r c l (p1, p2) y z (hF.gr (by repeat (first | exact memH | apply memT)) (by repeat (first | exact memH | apply memT)) (by repeat (first | exact memH | apply memT))) (Fr.li hF (by repeat (first | exact memH | apply memT))) (hfew _ _ (Fr.li hF (by repeat (first | exact memH | apply memT)))) hz).mono ?_; rintro _ wy ⟨rfl, hE, hG⟩; replace hF := Fr.addGv (Fr.callMp (Fr.swapD hF) hE (.inr rfl) (nfC nf_li (nfC (nf_cb hgm) (nfC nf_gv (nfC nf_gi nfN)))) hG.mp) hG.vals; clear hE hG; refine Back.mk ?_)) | (refine TL.isBin ?_; refine TL.cmpG rfl rfl rfl rfl (fun hc => ?_) (fun hc => ?_) <;> (try (first | (exfalso; omega) | exact absurd rfl hc))) | (apply TL.ev; (case hd => rfl); (case h => (first | exact ev_simple rfl | (apply Ev.isBin; first | exact ev_eqlP rfl rfl rfl) | (apply Ev.isLoad; first | exact ev_loadAFr hF rfl (by refine ⟨?_, ?_⟩; (focus (repeat (first | exact InV.head | apply InV.tail))); rfl) | exact ev_loadCb hF rfl (by repeat (first | exact memH | apply memT)) rfl) | exact ev_fieldAddr rfl | exact ev_buildX rfl rfl | exact ev_nilCheck rfl | exact ev_mlookOkI hF (y := (p1, p2)) rfl rfl (by repeat (first | exact memH | apply memT)) hb | exact ev_mlen hF rfl (by repeat (first | exact memH | apply memT))))) | (refine TL.storeAFr hF rfl rfl rfl rfl (by refine ⟨?_, ?_⟩; (focus (repeat (first | apply SetV.head | apply SetV.tail))); rfl) rfl ?_; clear hF; intro ws hF) | (refine TL.boxAFr hF (d := 7) (cs := [.bool xn, .slice xA xk xc]) rfl rfl ?_; clear hF; intro w7 b7 hF) | (refine TL.allocFr hF (d := 9) rfl rfl ?_; clear hF; intro w9 b9 hF) | (refine TL.allocFr hF (d := 10) rfl rfl ?_; clear hF; intro w10 b10 hF)) | (refine TF.is ?_; first | refine TF.nil ?_ | refine TF.e rfl ?_ | refine TF.alt ?_ ?_ | (refine TF.pick rfl ?_; first | (apply TFo.ev; (case hd => rfl); (case h => (intro wh hF; first | exact ev_simple rfl | (apply Ev.isLoad; first | exact ev_loadAFr hF rfl (by refine ⟨?_, ?_⟩; (focus (repeat (first | exact InV.head | apply InV.tail))); rfl) | exact ev_loadCb hF rfl (by repeat (first | exact memH | apply memT)) rfl) | exact ev_fieldAddr rfl | exact ev_nilCheck rfl))))) | (refine T.is ?_; first | refine T.seq ?_ | refine T.region ?_ | refine T.cond_f rfl ?_ | refine T.ret ?_ | refine T.skip ?_ | (refine T.regionFr hF 4 12 (.s 0 (.s 1 (.s 2 (.s 3 (.s 4 (.alt (.e 5 (.s 6 (.s 7 (.s 8 (.e 9 (.e 10 (.s 11 .nil))))))) (.e 9 (.e 5 (.s 6 (.s 7 (.s 8 (.e 10 (.s 11 .nil))))))))))))) mixed (by kernel_rfl) ?_; clear hF; intro wr hF) | (refine T.regionFr hF 9 4 (.s 0 (.s 1 (.s 2 (.e 3 (.e 4 .nil))))) mixed (by kernel_rfl) ?_; clear hF; intro wr hF)) | (refine G.is ?_; first | refine G.next ?_ | refine G.only ?_ | refine G.treeEnd rfl ?_ | refine G.tree rfl (by first | exact hF | exact hF.weak (List.sublist_append_right _ _) (by repeat (first | exact allR | apply allT)) | exact hF.weak (by repeat (first | exact List.Sublist.refl _ | apply List.Sublist.cons)) (by repeat (first | exact allR | apply allT)) | exact hF.weak (by repeat (first | exact List.Sublist.refl _ | apply List.Sublist.cons)) (by repeat (first | exact allN | refine allH (by repeat (first | exact memH | apply memT)) ?_))) ?_) | refine TL.nil ?_)
    all_goals exact G.ret1 rfl rfl ⟨y, Fr.li hF (by repeat (first | exact memH | apply memT)), rfl, hF.exs, hF.gr (by repeat (first | exact memH | apply memT)) (by repeat (first | exact memH | apply memT)) (by repeat (first | exact memH | apply memT))⟩
  · clear hlen
    repeat' (first | (refine TL.isOp ?_; first | (refine TL.isG ?_; first | refine TL.grun rfl rfl rfl ?_ | refine TL.gskip rfl rfl rfl rfl ?_) | (refine TL.isCall ?_; refine TL.call rfl rfl ?_; first | (refine (h1 _).mono ?_; rintro _ wy ⟨rfl, hE⟩; replace hF := hF.exts hE; clear hE; refine Back.mk ?_) | (refine (h2 _).mono ?_; rintro _ wy ⟨rfl, hE⟩; replace hF := hF.exts hE; clear hE; refine Back.mk ?_) | (refine (hlong _ (Fr.gi hF (by repeat (first | exact memH | apply memT)))).mono ?_; rintro _ wy ⟨rfl, hE⟩; replace hF := hF.exts hE; clear hE; refine Back.mk ?_) | (refine (hzl _ (Fr.gi hF (by repeat (first | exact memH | apply memT)))).mono ?_; rintro _ wy ⟨y, rfl, hy, hE, hyn⟩; replace hF := Fr.addLI (hF.exts hE) hy; clear hE hyn hy; refine Back.mk ?_) | (refine (gput_put _ g m r c l (p1, p2) y z (hF.gr (by repeat (first | exact memH | apply memT)) (by repeat (first | exact memH | apply memT)) (by repeat (first | exact memH | apply memT))) (Fr.li hF (by repeat (first | exact memH | apply memT))) (hfew _ _ (Fr.li hF (by repeat (first | exact memH | apply memT)))) hz).mono ?_; rintro _ wy ⟨rfl, hE, hG⟩; replace hF := Fr.addGv (Fr.callMp (Fr.swapD hF) hE (.inr rfl) (nfC nf_li (nfC (nf_cb hgm) (nfC nf_gv (nfC nf_gi nfN)))) hG.mp) hG.vals; clear hE hG; refine Back.mk ?_)) | (apply TL.ev; (case hd => rfl); (case h => (first | exact ev_simple rfl | (apply Ev.isBin; first | exact ev_eqlP rfl rfl rfl) | (apply Ev.isLoad; first | exact ev_loadAFr hF rfl (by refine ⟨?_, ?_⟩; (focus (repeat (first | exact InV.head | apply InV.tail))); rfl) | exact ev_loadCb hF rfl (by repeat (first | exact memH | apply memT)) rfl) | exact ev_fieldAddr rfl | exact ev_buildX rfl rfl | exact ev_nilCheck rfl | exact ev_mlookOkI hF (y := (p1, p2)) rfl rfl (by repeat (first | exact memH | apply memT)) hb))) | (refine TL.storeAFr hF rfl rfl rfl rfl (by refine ⟨?_, ?_⟩; (focus (repeat (first | apply SetV.head | apply SetV.tail))); rfl) rfl ?_; clear hF; intro ws hF) | (refine TL.boxAFr hF (d := 7) (cs := [.bool xn, .slice xA xk xc]) rfl rfl ?_; clear hF; intro w7 b7 hF) | (refine TL.allocFr hF (d := 9) rfl rfl ?_; clear hF; intro w9 b9 hF) | (refine TL.allocFr hF (d := 10) rfl rfl ?_; clear hF; intro w10 b10 hF)) | (refine TF.is ?_; first | refine TF.nil ?_ | refine TF.e rfl ?_ | refine TF.alt ?_ ?_ | (refine TF.pick rfl ?_; first | (apply TFo.ev; (case hd => rfl); (case h => (intro wh hF; first | exact ev_simple rfl | (apply Ev.isLoad; first | exact ev_loadAFr hF rfl (by refine ⟨?_, ?_⟩; (focus (repeat (first | exact InV.head | apply InV.tail))); rfl) | exact ev_loadCb hF rfl (by repeat (first | exact memH | apply memT)) rfl) | exact ev_fieldAddr rfl | exact ev_nilCheck rfl))))) | (refine T.is ?_; first | refine T.seq ?_ | refine T.region ?_ | refine T.cond_f rfl ?_ | refine T.ret ?_ | refine T.skip ?_ | (refine T.regionFr hF 4 12 (.s 0 (.s 1 (.s 2 (.s 3 (.s 4 (.alt (.e 5 (.s 6 (.s 7 (.s 8 (.e 9 (.e 10 (.s 11 .nil))))))) (.e 9 (.e 5 (.s 6 (.s 7 (.s 8 (.e 10 (.s 11 .nil))))))))))))) mixed (by kernel_rfl) ?_; clear hF; intro wr hF) | (refine T.regionFr hF 9 4 (.s 0 (.s 1 (.s 2 (.e 3 (.e 4 .nil))))) mixed (by kernel_rfl) ?_; clear hF; intro wr hF)) | (refine G.is ?_; first | refine G.next ?_ | refine G.only ?_ | refine G.treeEnd rfl ?_ | refine G.tree rfl (by first | exact hF | exact hF.weak (List.sublist_append_right _ _) (by repeat (first | exact allR | apply allT)) | exact hF.weak (by repeat (first | exact List.Sublist.refl _ | apply List.Sublist.cons)) (by repeat (first | exact allR | apply allT)) | exact hF.weak (by repeat (first | exact List.Sublist.refl _ | apply List.Sublist.cons)) (by repeat (first | exact allN | refine allH (by repeat (first | exact memH | apply memT)) ?_))) ?_) | refine TL.nil ?_)
    all_goals exact G.ret1 rfl rfl ⟨y, Fr.li hF (by repeat (first | exact memH | apply memT)), rfl, hF.exs, hF.gr (by repeat (first | exact memH | apply memT)) (by repeat (first | exact memH | apply memT)) (by repeat (first | exact memH | apply memT))⟩
theorem gset_zero (w : World) (g m r c : Nat) (l : GL) (p1 p2 : Int) (x : IV) (hG : Gr w.heap g m r c l) (hp : (0 ≤ p1 ∧ p1 < (r : Int)) ∧ (0 ≤ p2 ∧ p2 < (c : Int))) (hx : GI w.heap x) (hxn : x.m.n ≤ 1099511627776) (hz : ival x = 0) :
    Cl Tryz.prog 12 #[.pointer (some ⟨g, 0, none⟩), .int .i64 p1, .int .i64 p2, ivA x] w (RetW w g m r c (del l (p1, p2)) (.int .i64 0)) := by
  have hF := Gr.frD hG (Fr.mt (Fr.refS w fun k => k = m) (dpGI x) (by unfold dpGI; exact hx))
  have hgm := hG.ne
  clear hG
  have h1 := fun w1 => in_t w1 p1 r hp.1
  have h2 := fun w1 => in_t w1 p2 c hp.2
  have hsg := fun w1 (g1 : GI w1.heap x) => zsign_ok w1 x g1 (by omega)
  obtain ⟨b, hb⟩ : ∃ b, (lkp l (p1, p2)).isSome = b := ⟨_, rfl⟩
  have hv : val x.m.l = 0 := by
    have : (ival x).natAbs = val x.m.l := (by unfold ival; exact sgn_abs ..)
    rw [← this, hz]; rfl
  have hbig : ¬ big x := by unfold big; rw [hv]; unfold bl; rw [if_pos rfl]; omega
  have hlong := fun w1 (g1 : GI w1.heap x) => long_ok w1 x g1 (by omega) false ⟨fun h => (by cases h), fun h => absurd h hbig⟩
  have hzl := fun w1 (g1 : GI w1.heap x) => zleast_ok w1 x g1 (by omega)
  have hfew : ∀ (H : Array Obj) y, LI H (ival x) y → y.m.n ≤ 16384 := fun H y h => h.few hbig
  rw [hz] at hsg hzl hfew
  have hs0 : sig 0 = 0 := rfl
  rw [hs0] at hsg
  clear hp hx hbig hv hz hs0
  obtain ⟨xn, ⟨xA, xk, xc, xl⟩⟩ := x
  refine enter Tryz.func12 rfl rfl rfl ?_
  cases b
  · repeat' (first | (refine TL.isOp ?_; first | (refine TL.isG ?_; first | refine TL.grun rfl rfl rfl ?_ | refine TL.gskip rfl rfl rfl rfl ?_) | (refine TL.isCall ?_; refine TL.call rfl rfl ?_; first | (refine (h1 _).mono ?_; rintro _ wy ⟨rfl, hE⟩; replace hF := hF.exts hE; clear hE; refine Back.mk ?_) | (refine (h2 _).mono ?_; rintro _ wy ⟨rfl, hE⟩; replace hF := hF.exts hE; clear hE; refine Back.mk ?_) | (refine (hlong _ (Fr.gi hF (by repeat (first | exact memH | apply memT)))).mono ?_; rintro _ wy ⟨rfl, hE⟩; replace hF := hF.exts hE; clear hE; refine Back.mk ?_) | (refine (hsg _ (Fr.gi hF (by repeat (first | exact memH | apply memT)))).mono ?_; rintro _ wy ⟨rfl, hE⟩; replace hF := hF.exts hE; clear hE; refine Back.mk ?_) | (refine (hzl _ (Fr.gi hF (by repeat (first | exact memH | apply memT)))).mono ?_; rintro _ wy ⟨y, rfl, hy, hE, hyn⟩; replace hF := Fr.addLI (hF.exts hE) hy; clear hE hyn hy; refine Back.mk ?_) | (refine (gput_zero _ g m r c l (p1, p2) y (hF.gr (by repeat (first | exact memH | apply memT)) (by repeat (first | exact memH | apply memT)) (by repeat (first | exact memH | apply memT))) (Fr.li hF (by repeat (first | exact memH | apply memT))) (hfew _ _ (Fr.li hF (by repeat (first | exact memH | apply memT))))).mono ?_; rintro _ wy ⟨rfl, hE, hG⟩; replace hF := Fr.addGv (Fr.callMp (Fr.swapD hF) hE (.inr rfl) (nfC nf_li (nfC (nf_cb hgm) (nfC nf_gv (nfC nf_gi nfN)))) hG.mp) hG.vals; clear hE hG; refine Back.mk ?_)) | (refine TL.isBin ?_; refine TL.cmpG rfl rfl rfl rfl (fun hc => ?_) (fun hc => ?_) <;> (try (first | (exfalso; omega) | exact absurd rfl hc))) | (apply TL.ev; (case hd => rfl); (case h => (first | exact ev_simple rfl | (apply Ev.isBin; first | exact ev_eqlP rfl rfl rfl) | (apply Ev.isLoad; first | exact ev_loadAFr hF rfl (by refine ⟨?_, ?_⟩; (focus (repeat (first | exact InV.head | apply InV.tail))); rfl) | exact ev_loadCb hF rfl (by repeat (first | exact memH | apply memT)) rfl) | exact ev_fieldAddr rfl | exact ev_buildX rfl rfl | exact ev_nilCheck rfl | exact ev_mlookOkI hF (y := (p1, p2)) rfl rfl (by repeat (first | exact memH | apply memT)) hb))) | (refine TL.storeAFr hF rfl rfl rfl rfl (by refine ⟨?_, ?_⟩; (focus (repeat (first | apply SetV.head | apply SetV.tail))); rfl) rfl ?_; clear hF; intro ws hF) | (refine TL.boxAFr hF (d := 7) (cs := [.bool xn, .slice xA xk xc]) rfl rfl ?_; clear hF; intro w7 b7 hF) | (refine TL.allocFr hF (d := 9) rfl rfl ?_; clear hF; intro w9 b9 hF) | (refine TL.allocFr hF (d := 10) rfl rfl ?_; clear hF; intro w10 b10 hF)) | (refine TF.is ?_; first | refine TF.nil ?_ | refine TF.e rfl ?_ | refine TF.alt ?_ ?_ | (refine TF.pick rfl ?_; first | (apply TFo.ev; (case hd => rfl); (case h => (intro wh hF; first | exact ev_simple rfl | (apply Ev.isLoad; first | exact ev_loadAFr hF rfl (by refine ⟨?_, ?_⟩; (focus (repeat (first | exact InV.head | apply InV.tail))); rfl) | exact ev_loadCb hF rfl (by repeat (first | exact memH | apply memT)) rfl) | exact ev_fieldAddr rfl | exact ev_nilCheck rfl))))) | (refine T.is ?_; first | refine T.seq ?_ | refine T.region ?_ | refine T.cond_f rfl ?_ | refine T.ret ?_ | refine T.skip ?_ | (refine T.regionFr hF 4 12 (.s 0 (.s 1 (.s 2 (.s 3 (.s 4 (.alt (.e 5 (.s 6 (.s 7 (.s 8 (.e 9 (.e 10 (.s 11 .nil))))))) (.e 9 (.e 5 (.s 6 (.s 7 (.s 8 (.e 10 (.s 11 .nil))))))))))))) mixed (by kernel_rfl) ?_; clear hF; intro wr hF) | (refine T.regionFr hF 9 4 (.s 0 (.s 1 (.s 2 (.e 3 (.e 4 .nil))))) mixed (by kernel_rfl) ?_; clear hF; intro wr hF)) | (refine G.is ?_; first | refine G.next ?_ | refine G.only ?_ | refine G.treeEnd rfl ?_ | refine G.tree rfl (by first | exact hF | exact hF.weak (List.sublist_append_right _ _) (by repeat (first | exact allR | apply allT)) | exact hF.weak (by repeat (first | exact List.Sublist.refl _ | apply List.Sublist.cons)) (by repeat (first | exact allR | apply allT)) | exact hF.weak (by repeat (first | exact List.Sublist.refl _ | apply List.Sublist.cons)) (by repeat (first | exact allN | refine allH (by repeat (first | exact memH | apply memT)) ?_))) ?_) | refine TL.nil ?_)
    all_goals exact G.ret1 rfl rfl ⟨rfl, hF.exs, hF.gr (by repeat (first | exact memH | apply memT)) (by repeat (first | exact memH | apply memT)) (by repeat (first | exact memH | apply memT))⟩
  · repeat' (first | (refine TL.isOp ?_; first | (refine TL.isG ?_; first | refine TL.grun rfl rfl rfl ?_ | refine TL.gskip rfl rfl rfl rfl ?_) | (refine TL.isCall ?_; refine TL.call rfl rfl ?_; first | (refine (h1 _).mono ?_; rintro _ wy ⟨rfl, hE⟩; replace hF := hF.exts hE; clear hE; refine Back.mk ?_) | (refine (h2 _).mono ?_; rintro _ wy ⟨rfl, hE⟩; replace hF := hF.exts hE; clear hE; refine Back.mk ?_) | (refine (hlong _ (Fr.gi hF (by repeat (first | exact memH | apply memT)))).mono ?_; rintro _ wy ⟨rfl, hE⟩; replace hF := hF.exts hE; clear hE; refine Back.mk ?_) | (refine (hzl _ (Fr.gi hF (by repeat (first | exact memH | apply memT)))).mono ?_; rintro _ wy ⟨y, rfl, hy, hE, hyn⟩; replace hF := Fr.addLI (hF.exts hE) hy; clear hE hyn hy; refine Back.mk ?_) | (refine (gput_zero _ g m r c l (p1, p2) y (hF.gr (by repeat (first | exact memH | apply memT)) (by repeat (first | exact memH | apply memT)) (by repeat (first | exact memH | apply memT))) (Fr.li hF (by repeat (first | exact memH | apply memT))) (hfew _ _ (Fr.li hF (by repeat (first | exact memH | apply memT))))).mono ?_; rintro _ wy ⟨rfl, hE, hG⟩; replace hF := Fr.addGv (Fr.callMp (Fr.swapD hF) hE (.inr rfl) (nfC nf_li (nfC (nf_cb hgm) (nfC nf_gv (nfC nf_gi nfN)))) hG.mp) hG.vals; clear hE hG; refine Back.mk ?_)) | (apply TL.ev; (case hd => rfl); (case h => (first | exact ev_simple rfl | (apply Ev.isBin; first | exact ev_eqlP rfl rfl rfl) | (apply Ev.isLoad; first | exact ev_loadAFr hF rfl (by refine ⟨?_, ?_⟩; (focus (repeat (first | exact InV.head | apply InV.tail))); rfl) | exact ev_loadCb hF rfl (by repeat (first | exact memH | apply memT)) rfl) | exact ev_fieldAddr rfl | exact ev_buildX rfl rfl | exact ev_nilCheck rfl | exact ev_mlookOkI hF (y := (p1, p2)) rfl rfl (by repeat (first | exact memH | apply memT)) hb))) | (refine TL.storeAFr hF rfl rfl rfl rfl (by refine ⟨?_, ?_⟩; (focus (repeat (first | apply SetV.head | apply SetV.tail))); rfl) rfl ?_; clear hF; intro ws hF) | (refine TL.boxAFr hF (d := 7) (cs := [.bool xn, .slice xA xk xc]) rfl rfl ?_; clear hF; intro w7 b7 hF) | (refine TL.allocFr hF (d := 9) rfl rfl ?_; clear hF; intro w9 b9 hF) | (refine TL.allocFr hF (d := 10) rfl rfl ?_; clear hF; intro w10 b10 hF)) | (refine TF.is ?_; first | refine TF.nil ?_ | refine TF.e rfl ?_ | refine TF.alt ?_ ?_ | (refine TF.pick rfl ?_; first | (apply TFo.ev; (case hd => rfl); (case h => (intro wh hF; first | exact ev_simple rfl | (apply Ev.isLoad; first | exact ev_loadAFr hF rfl (by refine ⟨?_, ?_⟩; (focus (repeat (first | exact InV.head | apply InV.tail))); rfl) | exact ev_loadCb hF rfl (by repeat (first | exact memH | apply memT)) rfl) | exact ev_fieldAddr rfl | exact ev_nilCheck rfl))))) | (refine T.is ?_; first | refine T.seq ?_ | refine T.region ?_ | refine T.cond_f rfl ?_ | refine T.ret ?_ | refine T.skip ?_ | (refine T.regionFr hF 4 12 (.s 0 (.s 1 (.s 2 (.s 3 (.s 4 (.alt (.e 5 (.s 6 (.s 7 (.s 8 (.e 9 (.e 10 (.s 11 .nil))))))) (.e 9 (.e 5 (.s 6 (.s 7 (.s 8 (.e 10 (.s 11 .nil))))))))))))) mixed (by kernel_rfl) ?_; clear hF; intro wr hF) | (refine T.regionFr hF 9 4 (.s 0 (.s 1 (.s 2 (.e 3 (.e 4 .nil))))) mixed (by kernel_rfl) ?_; clear hF; intro wr hF)) | (refine G.is ?_; first | refine G.next ?_ | refine G.only ?_ | refine G.treeEnd rfl ?_ | refine G.tree rfl (by first | exact hF | exact hF.weak (List.sublist_append_right _ _) (by repeat (first | exact allR | apply allT)) | exact hF.weak (by repeat (first | exact List.Sublist.refl _ | apply List.Sublist.cons)) (by repeat (first | exact allR | apply allT)) | exact hF.weak (by repeat (first | exact List.Sublist.refl _ | apply List.Sublist.cons)) (by repeat (first | exact allN | refine allH (by repeat (first | exact memH | apply memT)) ?_))) ?_) | refine TL.nil ?_)
    all_goals exact G.ret1 rfl rfl ⟨rfl, hF.exs, hF.gr (by repeat (first | exact memH | apply memT)) (by repeat (first | exact memH | apply memT)) (by repeat (first | exact memH | apply memT))⟩
end Go.Proofs.YtlpheckjogphmaaGreat
namespace Go.Eng
open Go Go.Proofs Go.NatM Go.RowKit Go.Proofs.YtlpheckjogphmaaGreat
theorem Fr.addG {S : Nat → Prop} {w0 w w' : World} {L : List VB} {D : List DP} {g m r c : Nat} {l : GL} (hF : Fr w0 w L D S) (hE : Ext w w') (hg : w.heap.size ≤ g) (hm : w.heap.size ≤ m) (hG : Gr w'.heap g m r c l) : Fr w0 w' L (dpGr g m r c l :: D) S :=
  hF.addNew hE _ (by unfold dpGr; exact hG) fun k hk => by
    unfold dpGr at hk
    rcases hk with rfl | rfl
    · exact hg
    · exact hm
theorem Fr.grOf {S : Nat → Prop} {w0 w : World} {L : List VB} {D : List DP} {g m r c : Nat} {l : GL} (hF : Fr w0 w L D S) (h : dpGr g m r c l ∈ D) : Gr w.heap g m r c l := by
  have := hF.data _ h
  unfold dpGr at this; exact this
theorem Fr.callG {S : Nat → Prop} {w0 w w' : World} {L : List VB} {D : List DP} {g m r c : Nat} {l l' : GL} (hF : Fr w0 w L (dpGr g m r c l :: D) S) (hE : Exs (fun k => k = m) w w') (hb : w0.heap.size ≤ m ∨ S m) (hfree : ∀ x ∈ D, ¬ x.fp m) (hG : Gr w'.heap g m r c l') : Fr w0 w' L (dpGr g m r c l' :: D) S := by
  have hg := hF.grOf (List.mem_cons_self ..)
  obtain ⟨es, k, hm, _⟩ := hg.mp
  refine hF.callX hE hm rfl hb hfree (by unfold dpGr; exact hG) fun _ h => ?_
  unfold dpGr at h ⊢; exact h
end Go.Eng
namespace Go.Proofs.YtlpheckjogphmaaGreat
open Go Go.Eng Go.Proofs Go.NatM Go.RowKit
theorem five_gi {H : Array Obj} {A : Option Addr} (h : Sl u64v H H.size A 1 1 [5]) : GI H ⟨false, ⟨A, 1, 1, [5]⟩⟩ := ⟨h, U64.one (by omega)⟩
theorem five_small (A : Option Addr) : ¬ GLarge [] (1, 2) ⟨false, ⟨A, 1, 1, [5]⟩⟩ := by
  rintro (h | ⟨_, _, h⟩)
  · unfold big at h
    have e : val [5] = 5 := rfl
    have e2 : bl 5 = 3 := by decide
    dsimp only at h
    rw [e, e2] at h
    omega
  · exact absurd h (by decide)
theorem five_ne (A : Option Addr) : ival ⟨false, ⟨A, 1, 1, [5]⟩⟩ ≠ 0 := by rw [show ival ⟨false, ⟨A, 1, 1, [5]⟩⟩ = 5 from rfl]; decide
theorem at_one (y : IV) : at0 (ups [] (1, 2) y) (1, 2) = y := by simp [at0, ups, lkp]
theorem dig_five : dig (Int.natAbs 5) = [5] := by rw [show Int.natAbs 5 = 5 from rfl]; rw [dig_pos (by decide)]; show 5 :: dig 0 = [5]; rw [dig_zero]
theorem five_val (A : Option Addr) : ival ⟨false, ⟨A, 1, 1, [5]⟩⟩ = 5 := rfl
theorem awake_ok (w : World) : Cl Tryz.prog 4 #[] w (YesM w) := by
  refine enter Tryz.func4 rfl rfl rfl ?_
  have hF := Fr.refl w
  repeat' (first | (refine TL.isOp ?_; first | (refine TL.isG ?_; first | refine TL.grun rfl rfl rfl ?_) | (refine TL.isCall ?_; refine TL.call rfl rfl ?_; first | (refine (gnew_ok _ 2 3 (by omega)).mono ?_; rintro _ wy ⟨_, ⟨g, m, rfl, hE, hg, hm, hG⟩, _, hv, rfl⟩; cases hv; replace hF := Fr.addG hF hE hg hm hG; clear hE hG hg; refine Back.mk ?_) | (refine (gset_put _ g m 2 3 [] 1 2 ⟨false, ⟨some ⟨b17, 0, none⟩, 1, 1, [5]⟩⟩ (hF.grOf (by repeat (first | exact memH | apply memT))) (by omega) (five_gi (Fr.sl hF (by repeat (first | exact memH | apply memT)))) (show 1 ≤ 1099511627776 by omega) (five_small _) (five_ne _)).mono ?_; rintro _ wy ⟨y, hy, rfl, hE, hG⟩; replace hF := Fr.callG hF hE (.inl hm) (nfC nf_sl nfN) hG; clear hE hG; rw [five_val] at hy; refine Back.mk ?_) | (refine (gget_ok _ g m 2 3 (ups [] (1, 2) y) 1 2 (hF.grOf (by repeat (first | exact memH | apply memT))) (by omega)).mono ?_; rintro _ wy ⟨v, rfl, hv, hE, hvn⟩; rw [at_one, hy.val] at hv; have hvl := hv.d; replace hF := Fr.addLI (hF.exts hE) hv; clear hE hv; refine Back.mk ?_) | (refine (glen_ok _ g m 2 3 (ups [] (1, 2) y) (hF.grOf (by repeat (first | exact memH | apply memT)))).mono ?_; rintro _ wy ⟨rfl, hE⟩; replace hF := hF.exts hE; clear hE; refine Back.mk ?_) | (refine (same_t _ _ _ v.m.A (some ⟨b33, 0, none⟩) v.m.n v.m.c 1 1 v.m.l [5] (Fr.li hF (by repeat (first | exact memH | apply memT))).g.s (Fr.sl hF (by repeat (first | exact memH | apply memT))) (by omega) (by omega) (hvl.trans dig_five)).cl.mono ?_; rintro _ wy ⟨rfl, hE⟩; replace hF := hF.exts hE.ext; clear hE; refine Back.mk ?_)) | (refine TL.isBin ?_; refine TL.cmpG rfl rfl rfl rfl (fun hc => ?_) (fun hc => ?_) <;> (try (first | (exfalso; omega) | exact absurd rfl hc))) | (apply TL.ev; (case hd => rfl); (case h => (first | exact ev_simple rfl | (apply Ev.isBin; first | exact ev_eqlP rfl rfl rfl) | (apply Ev.isLoad; first | exact ev_loadFr hF rfl (by refine ⟨?_, ?_⟩; (focus (repeat (first | exact InV.head | apply InV.tail))); rfl)) | exact ev_fieldAddr rfl | exact ev_buildX rfl rfl))) | (refine TL.storeAFr hF rfl rfl rfl rfl (by refine ⟨?_, ?_⟩; (focus (repeat (first | apply SetV.head | apply SetV.tail))); rfl) rfl ?_; clear hF; intro ws hF) | (refine TL.allocFr hF (d := 3) rfl rfl ?_; clear hF; intro w3 b3 hF) | (refine TL.build1U (d := 17) rfl rfl ?_; intro w17 b17 eb hB hE hz; have hSn := (hB.slN (n := 1) (c := 1) rfl (Nat.le_refl _) hB.lt).size; replace hF := Fr.swapD (Fr.addSl (hF.exts hE) hSn); clear hB hE hz hSn eb) | (refine TL.build1U (d := 33) rfl rfl ?_; intro w33 b33 eb hB hE hz; have hSn := (hB.slN (n := 1) (c := 1) rfl (Nat.le_refl _) hB.lt).size; replace hF := Fr.addSl (hF.exts hE) hSn; clear hB hE hz hSn eb)) | (refine T.is ?_; first | refine T.seq ?_ | refine T.region ?_ | refine T.cond_f rfl ?_ | refine T.ret ?_ | refine T.skip ?_) | (refine G.is ?_; first | refine G.next ?_) | refine TL.nil ?_)
  all_goals exact G.ret1 rfl rfl ⟨rfl, hF.ext⟩
end Go.Proofs.YtlpheckjogphmaaGreat
namespace Go.Proofs.YtlpheckjogphmaaGreat
open Go Go.Eng Go.Proofs Go.NatM Go.RowKit
end Go.Proofs.YtlpheckjogphmaaGreat
namespace Go.Eng
open Go
section
variable {P : Program} {σ : Store} {H : Array Obj} {d : Option Tmp} {t : TypeId} {pos : String} {af : Array Edge} {gd : Option (Nat × Bool)}
end
theorem Fr.joinF {S : Nat → Prop} {w0 w w' : World} {L L' : List VB} {D D' : List DP} (h : Fr w0 w L D S) (h' : Fr w w' L' D') (hfp : ∀ d ∈ D', ∀ k, ¬ d.fp k) : Fr w0 w' (L' ++ L) (D' ++ D) S := by
  have hE := h'.ext
  have h1 := h.exts hE
  refine ⟨h1.exs, fun v hv => ?_, List.pairwise_append.2 ⟨h'.dist, h.dist, fun x hx y hy e => ?_⟩, fun d hd => ?_, fun v hv d hd => ?_⟩
  · rcases List.mem_append.1 hv with hv | hv
    · exact ⟨.inl (Nat.le_trans h.exs.size ((h'.vars v hv).1.resolve_right id)), (h'.vars v hv).2⟩
    · exact h1.vars v hv
  · have a1 := (h'.vars x hx).1.resolve_right id
    have a2 := (h.vars y hy).2.lt
    omega
  · rcases List.mem_append.1 hd with hd | hd
    · exact h'.data d hd
    · exact h1.data d hd
  · rcases List.mem_append.1 hd with hd | hd
    · exact hfp d hd _
    · rcases List.mem_append.1 hv with hv | hv
      · intro hk
        have a1 := (h'.vars v hv).1.resolve_right id
        have a2 := d.lt _ _ (h.data d hd) hk
        omega
      · exact h.apart v hv d hd
end Go.Eng
namespace Go.Proofs.YtlpheckjogphmaaGreat
open Go Go.Eng Go.Proofs Go.NatM Go.RowKit
end Go.Proofs.YtlpheckjogphmaaGreat
namespace Go.Eng
open Go Go.RowKit
theorem put_mid (a b z : List Value) (h : b.length ≤ z.length) : putV (a ++ z) a.length b = a ++ b ++ z.drop b.length := by
  apply List.ext_getElem?
  intro j
  rw [putV_get]
  simp only [List.length_append, List.append_assoc]
  rcases Nat.lt_or_ge j a.length with h1 | h1
  · rw [if_neg (by omega), List.getElem?_append_left h1, List.getElem?_append_left h1]
  · rw [List.getElem?_append_right h1, List.getElem?_append_right h1]
    rcases Nat.lt_or_ge (j - a.length) b.length with h2 | h2
    · rw [if_pos (by omega), List.getElem?_append_left h2]
    · rw [if_neg (by omega), List.getElem?_append_right h2, List.getElem?_drop]
      congr 1
      omega
theorem fill_all {α : Type} {f : α → List Value} {sz : Nat} : ∀ (us : List α) (i : Nat) (pre rest : List Value), (∀ u ∈ us, (f u).length = sz) → pre.length = i * sz → rest.length = us.length * sz →
    Instr.fill (fun j => some (j * sz, sz)) (pre ++ rest).toArray ((us.zipIdx i).map fun p => (p.2, Value.agg (f p.1).toArray)) = some (pre ++ us.flatMap f).toArray
  | [], i, pre, rest, _, _, hr => by
    have : rest = [] := List.eq_nil_of_length_eq_zero (by simpa using hr)
    subst this
    simp [Instr.fill]
  | u :: us, i, pre, rest, hw, hp, hr => by
    have hu := hw u (List.mem_cons_self ..)
    rw [List.length_cons, Nat.add_mul, Nat.one_mul] at hr
    have p1 : Array.foldl (fun (cs : Array Value) (p : Value × Nat) => cs.setIfInBounds (i * sz + p.2) p.1) (pre ++ rest).toArray (f u).toArray.zipIdx = (pre ++ f u ++ rest.drop sz).toArray := by
      apply Array.ext'
      have := foldl_put (f u) 0 (i * sz) (pre ++ rest).toArray
      rw [← Array.foldl_toList, Array.toList_zipIdx]
      simp only [Nat.add_zero] at this
      rw [this, ← hp]
      simp only [List.toList_toArray]
      rw [put_mid _ _ _ (by omega), hu]
    have e3 : (decide ((Value.agg (f u).toArray).cells.size ≠ sz) || decide (i * sz + (Value.agg (f u).toArray).cells.size > (pre ++ rest).toArray.size)) = false := by
      simp [Value.cells, hu]; omega
    rw [List.zipIdx_cons, List.map_cons]
    unfold Instr.fill
    simp only [e3]
    rw [show (Value.agg (f u).toArray).cells = (f u).toArray from rfl, p1]
    have ih := fill_all us (i + 1) (pre ++ f u) (rest.drop sz) (fun v hv => hw v (List.mem_cons_of_mem _ hv)) (by rw [List.length_append, hp, hu, Nat.add_mul, Nat.one_mul]) (by rw [List.length_drop]; omega)
    simp only [List.append_assoc, List.flatMap_cons] at ih ⊢
    simpa using ih
theorem rep_zeros {z : List Value} {sz : Nat} (hz : z.length = sz) (hpos : 0 < sz) (n : Nat) : ((Array.range (n * sz)).map (fun q => z.toArray[q % z.toArray.size]!)) = ((List.replicate n z).flatMap id).toArray := by
  have hf := made_flat (f := fun _ : Unit => z) (u := ()) (c := n) hpos rfl hz
  unfold madeCells at hf
  apply Array.ext'
  rw [hf]
  simp only [List.flatMap, List.map_replicate, id]
section
variable {P : Program} {N : Fm} {Q : Exit → Act → World → Prop} {σ : Store} {S : Nat → Prop} {w0 w : World} {L : List VB} {D : List DP} {ops : Array Oper} {d : Nat} {t : TypeId} {pos : String} {af : Array Edge} {rest : List Oper}
theorem TL.buildXs (hF : Fr w0 w L D S) {α : Type} {f : α → List Value} (us : List α) (xs : List Operand) {ty e : TypeId} [hT : USlice P ty e] {z : List Value} {sz b1 : Nat} [hS : USize P e (.agg z.toArray) sz b1] {n : Nat} {parts : Array (Nat × Operand)} (hp : parts = (xs.zipIdx.map fun p => (p.2, p.1)).toArray) (hn : us.length = n) (hx : looks σ xs = some (us.map fun u => Value.agg (f u).toArray)) (hd : Nat.blt d N.n = true)
    (hw : ∀ u ∈ us, (f u).length = sz) (hzl : Nat.beq z.length sz = true) (h0 : Nat.blt 0 sz = true) (hn0 : 0 < n) (hm : n * sz ≤ 1000000)
    (K : ∀ w' b, Fr w0 w' L D S → Ext w w' → w.heap.size ≤ b → Sm sz f w'.heap w'.heap.size (some ⟨b, 0, none⟩) n n us → TL P N .seq ops Q rest ((d, .slice (some ⟨b, 0, none⟩) n n) :: σ) w') :
    TL P N .seq ops Q (⟨some d, .buildSlice ty n parts, t, pos, af, none⟩ :: rest) σ w := by
  subst hp hn
  obtain ⟨i, hi, hz0, hsz, hby⟩ := hS.info
  have hzlen := Nat.eq_of_beq_eq_true hzl
  have hpos : 0 < sz := by simpa [Nat.blt_eq] using h0
  have hfl : ((List.replicate us.length z).flatMap id).length = us.length * sz := by rw [flatMap_len (k := sz) (fun x hx => by rw [(List.mem_replicate.1 hx).2]; exact hzlen)]; simp
  have hn1 : 0 < us.length * sz := Nat.mul_pos hn0 hpos
  have hfill : Instr.fill (fun j => some (j * i.size, i.size)) ((Array.range (us.length * i.size)).map (fun q => z.toArray[q % z.toArray.size]!)) (us.zipIdx.map fun p => (p.2, Value.agg (f p.1).toArray)) = some (us.flatMap f).toArray := by
    rw [hsz, rep_zeros hzlen hpos]
    have := fill_all us 0 [] ((List.replicate us.length z).flatMap id) hw (by simp) hfl
    simpa using this
  have hrun : (Instr.buildSlice ty us.length (us.zipIdx.map fun p => (p.2, Value.agg (f p.1).toArray)).toArray).run P w = .ok (.slice (some ⟨w.heap.size, 0, none⟩) us.length us.length) (w.alloc (.cells (us.flatMap f).toArray e)) := by
    refine run_buildSlice w ty e us.length _ (us.flatMap f).toArray i (.agg z.toArray) hT.out hi hz0 (by rw [hsz]; omega) (by rw [hsz]; omega) ?_
    simp only [Value.cells]
    exact hfill
  have hE := ext_alloc w (.cells (us.flatMap f).toArray e)
  have hV : Vr (w.alloc (.cells (us.flatMap f).toArray e)).heap w.heap.size e (us.flatMap f ++ []) := by unfold Vr; rw [heap_alloc]; simp
  refine TL.op (w' := w.alloc (.cells (us.flatMap f).toArray e)) (fun ρ hρ => ?_) hd (K _ _ (hF.exts hE) hE (Nat.le_refl _) (vr_sm hpos hw hV rfl (Nat.le_refl _) hV.lt))
  have h1 := hρ.list _ _ hx
  have h2 : ((xs.zipIdx.map fun p => (p.2, p.1)).toArray.map fun (p : Nat × Operand) => (p.1, ρ p.2)) = (us.zipIdx.map fun p => (p.2, Value.agg (f p.1).toArray)).toArray := by
    rw [List.map_toArray, List.map_map]
    congr 1
    have e1 : ∀ (ys : List Operand) (k : Nat), (ys.zipIdx k).map ((fun (p : Nat × Operand) => (p.1, ρ p.2)) ∘ fun p => (p.2, p.1)) = ((ys.map ρ).zipIdx k).map fun p => (p.2, p.1) := by
      intro ys
      induction ys with
      | nil => intro k; rfl
      | cons y ys ih => intro k; simp [List.zipIdx_cons]; exact ih (k + 1)
    have e2 : ∀ (vs : List α) (k : Nat), ((vs.map fun u => Value.agg (f u).toArray).zipIdx k).map (fun p => (p.2, p.1)) = (vs.zipIdx k).map fun p => (p.2, Value.agg (f p.1).toArray) := by
      intro vs
      induction vs with
      | nil => intro k; rfl
      | cons y ys ih => intro k; simp [List.zipIdx_cons]; exact ih (k + 1)
    rw [e1, h1, e2]
  simp only [execOp]
  rw [h2]
  simp [hrun]
end
def dpSmG {α : Type} (k : Nat) (f : α → List Value) (A : Option Addr) (n c : Nat) (l : List α) : DP := ⟨fun H => Sm k f H H.size A n c l, fpA A n, fun _ _ h hk => h.fp_lt hk, fun _ _ hd h => (Sm.de (fun _ h => h) hd h).size⟩
theorem Fr.smG {S : Nat → Prop} {w0 w : World} {L : List VB} {D : List DP} (h : Fr w0 w L D S) {α : Type} {k : Nat} {f : α → List Value} {A : Option Addr} {n c : Nat} {l : List α} (hm : dpSmG k f A n c l ∈ D) : Sm k f w.heap w.heap.size A n c l := h.data _ hm
attribute [irreducible] dpSmG
end Go.Eng
namespace Go.Eng
open Go Go.RowKit
section
variable {P : Program} {N : Fm} {Q : Exit → Act → World → Prop} {σ : Store} {w : World} {ops : Array Oper} {d : Nat} {t : TypeId} {pos : String} {af : Array Edge} {rest : List Oper}
end
section
variable {P : Program} {σ : Store} {H : Array Obj} {d : Option Tmp} {t : TypeId} {pos : String} {af : Array Edge} {gd : Option (Nat × Bool)}
theorem subV_getElem : ∀ (n : Nat) (cs : List Value) (off : Nat) (r : List Value), subV cs off n = some r → r.length = n ∧ ∀ (q : Nat) v, r[q]? = some v → cs[off + q]? = some v
  | 0, cs, off, r, h => by
    simp [subV] at h
    subst h
    exact ⟨rfl, fun q v hq => by simp at hq⟩
  | n + 1, cs, off, r, h => by
    unfold subV at h
    cases h1 : nthV cs off with
    | none => rw [h1] at h; cases h
    | some u =>
      rw [h1] at h
      cases h2 : subV cs (off + 1) n with
      | none => rw [h2] at h; cases h
      | some l =>
        rw [h2] at h
        cases h
        obtain ⟨i1, i2⟩ := subV_getElem n cs (off + 1) l h2
        refine ⟨by simp [i1], fun q v hq => ?_⟩
        cases q with
        | zero =>
          simp at hq
          subst hq
          rw [nthV_eq] at h1
          simpa using h1
        | succ q =>
          rw [List.getElem?_cons_succ] at hq
          have := i2 q v hq
          rwa [show off + 1 + q = off + (q + 1) by omega] at this
theorem ev_loadMS {x : Operand} {ty : TypeId} [hA : UAgg P ty] {z : Value} {sz' b1 : Nat} [hS : USize P ty z sz' b1] {sz off : Nat} {α : Type} {f : α → List Value} {B n c i : Nat} {A : Option Addr} {l : List α} {y : α} {cs : List Value}
    (hx : look σ x = some (.pointer (elemA A (i * sz + off)))) (hs : Sm sz f H B A n c l) (hy : l[i]? = some y) (hv : subV (f y) off sz' = some cs) : Ev P σ H ⟨d, .load ty x, t, pos, af, gd⟩ (.agg cs.toArray) := by
  unfold Ev
  intro ρ w hρ hH
  have hi := (List.getElem?_eq_some_iff.1 hy).1
  have hlen := hs.len
  obtain ⟨hl, hq⟩ := subV_getElem _ _ _ _ hv
  rcases hs.mem with h0 | ⟨b, o, rfl, _, hc⟩
  · omega
  · obtain ⟨fs, hfs⟩ := hA.out
    obtain ⟨ii, hii, _, hsz, _⟩ := hS.info
    have hr : w.rangeAt b (o + (i * sz + off)) cs := fun q v hv => by
      rw [cell_of_hcell, hH, Nat.add_assoc, Nat.add_assoc]
      exact hc i y hy _ v (hq q v hv)
    have := run_loadAt_mid (P := P) w b (o + (i * sz + off)) ty cs _ hr hfs rfl (by rw [hii]; simp [hsz, hl])
    have e : look σ x = some (.pointer (some ⟨b, o + (i * sz + off), none⟩)) := by rw [hx]; simp [elemA, add_mk]
    simp [execOp, hρ x _ e, this]
end
end Go.Eng
set_option linter.unusedSectionVars false
namespace Go.Eng
open Go Go.Proofs Go.NatM Go.RowKit Go.Proofs.YtlpheckjogphmaaGreat
def plc (p : (Int × Int) × IV) : List Value := [.int .i64 p.1.1, .int .i64 p.1.2, .bool p.2.neg, .slice p.2.m.A p.2.m.n p.2.m.c]
theorem plc_no (l : GL) {zs : List Value} (h : zs.all noU64 = true) : (l.flatMap plc ++ zs).all noU64 = true := by
  rw [List.all_append, h, Bool.and_true, List.all_eq_true]
  intro v hv
  obtain ⟨p, _, hp⟩ := List.mem_flatMap.1 hv
  simp only [plc, List.mem_cons, List.not_mem_nil, or_false] at hp
  rcases hp with rfl | rfl | rfl | rfl <;> rfl
abbrev PB := Option (Nat × Nat × List Value)
def slv (n : Nat) : PB → Value
  | none => .slice none 0 0
  | some (b, c, _) => .slice (some ⟨b, 0, none⟩) n c
def lvb (l : GL) : PB → List VB
  | none => []
  | some (b, _, zs) => [⟨b, 57, l.flatMap plc ++ zs⟩]
def PBok (l : GL) : PB → Prop
  | none => l = []
  | some (_, c, zs) => 0 < l.length ∧ l.length ≤ c ∧ zs.length = (c - l.length) * 4 ∧ zs.all noU64 = true
section
variable {S : Nat → Prop} {w0 w w' : World} {L : List VB} {D : List DP}
variable {K V : Type} [DecidableEq K] {f : K → Value} {g' : V → Value} {r b m g : Nat} {l done todo : List (K × V)}
theorem Fr.it_at (hF : Fr w0 w L D S) (h : dpIt f g' r b l done todo ∈ D) : ∃ c s, w.heap[r]? = some (.mapIter (some b) c s c) := by
  have := hF.data _ h
  unfold dpIt at this
  obtain ⟨es, c, E, T, _, _, h1, _⟩ := this
  exact ⟨c, _, h1⟩
theorem Fr.it_mp (hF : Fr w0 w L D S) (h : dpIt f g' r b l done todo ∈ D) {K2 V2 : Type} [DecidableEq K2] {f2 : K2 → Value} {g2 : V2 → Value} {l2 : List (K2 × V2)} (h2 : dpMp f2 g2 m l2 ∈ D) : m ≠ r := fun e => by
  obtain ⟨c, s, h1⟩ := hF.it_at h
  obtain ⟨es, k, h4, _⟩ := hF.mp h2
  rw [e, h1] at h4
  cases h4
theorem Fr.it_cb (hF : Fr w0 w L D S) (h : dpIt f g' r b l done todo ∈ D) {t : TypeId} {cs : List Value} (h2 : dpCb g t cs ∈ D) : g ≠ r := fun e => by
  obtain ⟨c, s, h1⟩ := hF.it_at h
  have h3 := hF.data _ h2
  unfold dpCb Vr at h3
  dsimp only at h3
  rw [e, h1] at h3
  cases h3
end
theorem nf_smG {α : Type} {k : Nat} {f : α → List Value} {A : Option Addr} {n c : Nat} {l : List α} {m : Nat} (h : ¬ fpA A n m) : ¬ (dpSmG k f A n c l).fp m := by unfold dpSmG; exact h
end Go.Eng
namespace Go.Proofs.YtlpheckjogphmaaGreat
open Go Go.Eng Go.Proofs Go.NatM Go.RowKit
def RetPl (w : World) (Q : GL → Prop) (e : Ending) (w' : World) : Prop := ∃ (l' : GL) (pb : PB), Q l' ∧ PBok l' pb ∧ e = .returned (slv l'.length pb) ∧ Fr w w' (lvb l' pb) []
def inRow (i : Int) (l : GL) : GL := l.filter fun p => decide (p.1.1 = i)
theorem inRow_snoc_t {i : Int} {l : GL} {p : (Int × Int) × IV} (h : p.1.1 = i) : inRow i (l ++ [p]) = inRow i l ++ [p] := by simp [inRow, List.filter_append, h]
theorem inRow_snoc_f {i : Int} {l : GL} {p : (Int × Int) × IV} (h : ¬ p.1.1 = i) : inRow i (l ++ [p]) = inRow i l := by simp [inRow, List.filter_append, h]
theorem inRow_len (i : Int) (l : GL) : (inRow i l).length ≤ l.length := List.length_filter_le ..
theorem drop_noV {zs : List Value} (h : zs.all noU64 = true) (n : Nat) : (zs.drop n).all noU64 = true := List.all_eq_true.2 fun v hv => List.all_eq_true.1 h v (List.mem_of_mem_drop hv)
theorem place_eq {i : Int} {p : (Int × Int) × IV} (h : p.1.1 = i) : (((i, p.1.2), p.2) : (Int × Int) × IV) = p := by
  obtain ⟨⟨a, b⟩, v⟩ := p
  simp only at h
  rw [h]
theorem step_perm {α : Type} {l a b b' : List α} {p : α} (h : l.Perm (a ++ b)) (k : b.Perm (p :: b')) : l.Perm (a ++ [p] ++ b') := by
  refine h.trans ?_
  rw [List.append_assoc]
  exact k.append_left a
theorem step_mu {α : Type} {b b' : List α} {p : α} (k : b.Perm (p :: b')) : b'.length < b.length := by have := k.length_eq; simp at this; omega
theorem gline_ok (w : World) (g m r c : Nat) (l : GL) (i : Int) (hG : Gr w.heap g m r c l) (hl : l.length ≤ 1048576) :
    Cl Tryz.prog 40 #[.pointer (some ⟨g, 0, none⟩), .int .i64 i] w (RetPl w fun l' => l'.Perm (inRow i l)) := by
  have hF := Gr.frD hG (Fr.refS w fun _ => False)
  clear hG
  refine enter Tryz.func40 rfl rfl rfl ?_
  repeat' (first | (refine TL.isOp ?_; first | (apply TL.ev; (case hd => rfl); (case h => (first | exact ev_simple rfl | (apply Ev.isLoad; first | exact ev_loadCb hF rfl (by repeat (first | exact memH | apply memT)) rfl) | exact ev_fieldAddr rfl | exact ev_nilCheck rfl))) | (refine TL.rangeFr (f := spot) (g := ivA) hF rfl (by repeat (first | exact memH | apply memT)) rfl ?_; have hr := hF.exs.size; clear hF; intro w12 r12 er hF; replace hr := Nat.le_trans hr (Nat.le_of_eq er.symm); clear er)) | (refine T.is ?_; first | refine T.seq ?_ | refine T.region ?_ | refine T.block ?_) | (refine G.is ?_; first | refine G.next ?_) | refine TL.nil ?_)
  have hmr := hF.it_mp (m := m) (by repeat (first | exact memH | apply memT)) (by repeat (first | exact memH | apply memT))
  have hgr := hF.it_cb (g := g) (by repeat (first | exact memH | apply memT)) (by repeat (first | exact memH | apply memT))
  refine T.loop (α := GL × GL × PB) (fun x => [(0, .pointer (some ⟨g, 0, none⟩)), (1, .int .i64 i), (5, slv (inRow i x.1).length x.2.2), (12, .pointer (some ⟨r12, 0, none⟩))])
    (fun x w' => l.Perm (x.1 ++ x.2.1) ∧ PBok (inRow i x.1) x.2.2 ∧ Fr w w' (lvb (inRow i x.1) x.2.2) [dpIt spot ivA r12 m l x.1 x.2.1, dpMp spot ivA m l, dpCb g 84 (grc r c m), dpGv l]) (fun x => x.2.1.length) ([], l, none) (by repeat (first | exact Sub.nil _ | refine Sub.cons rfl ?_ | refine Sub.cons' rfl (int_congr (by omega)) ?_)) ⟨List.Perm.refl _, rfl, hF⟩ ?_
  clear hF
  rintro ⟨done, todo, pb⟩ w1 ⟨hp, hpb, hF⟩
  dsimp only at hp hpb hF ⊢
  rcases pb with _ | ⟨bp, cp, zp⟩
  · repeat' (first | (refine TL.isOp ?_; first | (refine TL.isBin ?_; refine TL.cmpG rfl rfl rfl rfl (fun hc => ?_) (fun hc => ?_) <;> (try (first | (exfalso; omega) | exact absurd rfl hc))) | (apply TL.ev; (case hd => rfl); (case h => (first | exact ev_simple rfl | (apply Ev.isLoad; first | exact ev_loadFr hF rfl (by refine ⟨?_, ?_⟩; (focus (repeat (first | exact InV.head | apply InV.tail))); rfl) | exact ev_loadAFr hF rfl (by refine ⟨?_, ?_⟩; (focus (repeat (first | exact InV.head | apply InV.tail))); rfl)) | exact ev_fieldAddr rfl | exact ev_buildX rfl rfl | exact ev_entry hF (by repeat (first | exact memH | apply memT)) rfl))) | (refine TL.storeAFr hF rfl rfl rfl rfl (by refine ⟨?_, ?_⟩; (focus (repeat (first | apply SetV.head | apply SetV.tail))); rfl) rfl ?_; clear hF; intro ws hF) | (refine TL.nextFr hF (.inl hr) (nfC (nf_mp hmr) (nfC (nf_cb hgr) (nfC nf_gv nfN))) rfl rfl (fun h0 wn hFn => ?_) (fun p todo' wn ht hFn => ?_) <;> clear hF <;> have hF := hFn <;> clear hFn) | (refine TL.allocFr hF (d := 6) rfl rfl ?_; clear hF; intro w6 b6 hF) | (refine TL.allocFr hF (d := 7) rfl rfl ?_; clear hF; intro w7 b7 hF) | (refine TL.buildXs hF (f := plc) (d := 28) [((i, p.1.2), p.2)] [.tmp 27] rfl rfl rfl rfl (by intro u hu; rfl) rfl rfl (by omega) (by omega) ?_; clear hF; intro w28 b28 hF hEn hbn hSn) | (refine TL.appendNewFr hF plc rfl rfl rfl rfl hSn (fun _ => rfl) rfl rfl (by omega) (fun h0 => absurd h0 (by omega)) ?_; clear hF hSn; intro _ wa ba ca za hca hza hzan hF)) | (refine T.is ?_; first | refine T.seq ?_ | refine T.region ?_ | refine T.block ?_ | refine T.cond_t rfl ?_ | refine T.cond_f rfl ?_ | refine T.exit ?_ | refine T.ret ?_ | refine T.skip ?_) | (refine G.is ?_; first | refine G.next ?_ | refine G.blockN ?_ | refine G.blockE ?_ | refine G.thenE ?_) | refine TL.nil ?_)
    · subst h0
      rw [List.append_nil] at hp
      exact G.ret1 rfl rfl ⟨inRow i done, none, (hp.filter _).symm, hpb, rfl, hF.weak (List.Sublist.refl _) allN⟩
    · have e := inRow_snoc_t hc (l := done)
      rw [place_eq hc] at hF
      have hpb : inRow i done = [] := hpb
      rw [hpb, List.nil_append] at e
      refine G.again (done ++ [p], todo', some (ba, ca, za)) ?_ ⟨step_perm hp ht, ?_, ?_⟩ (step_mu ht)
      · dsimp only; rw [e]; exact (by repeat (first | exact Sub.nil _ | refine Sub.cons rfl ?_ | refine Sub.cons' rfl (int_congr (by omega)) ?_))
      · dsimp only; rw [e]; exact ⟨Nat.one_pos, hca, hza, hzan⟩
      · dsimp only; rw [e]; exact hF.weak (.cons_cons _ (List.nil_sublist _)) allR
    · have e := inRow_snoc_f hc (l := done)
      refine G.again (done ++ [p], todo', none) ?_ ⟨step_perm hp ht, ?_, ?_⟩ (step_mu ht)
      · dsimp only; rw [e]; exact (by repeat (first | exact Sub.nil _ | refine Sub.cons rfl ?_ | refine Sub.cons' rfl (int_congr (by omega)) ?_))
      · dsimp only; rw [e]; exact hpb
      · dsimp only; rw [e]; exact hF.weak (.cons _ (.cons _ (.refl _))) allR
  · obtain ⟨hb0, hbc, hbz, hbo⟩ := hpb
    have hlen := inRow_len i done
    have hlen2 := hp.length_eq
    rw [List.length_append] at hlen2
    repeat' (first | (refine TL.isOp ?_; first | (refine TL.isBin ?_; refine TL.cmpG rfl rfl rfl rfl (fun hc => ?_) (fun hc => ?_) <;> (try (first | (exfalso; omega) | exact absurd rfl hc))) | (apply TL.ev; (case hd => rfl); (case h => (first | exact ev_simple rfl | (apply Ev.isLoad; first | exact ev_loadFr hF rfl (by refine ⟨?_, ?_⟩; (focus (repeat (first | exact InV.head | apply InV.tail))); rfl) | exact ev_loadAFr hF rfl (by refine ⟨?_, ?_⟩; (focus (repeat (first | exact InV.head | apply InV.tail))); rfl)) | exact ev_fieldAddr rfl | exact ev_buildX rfl rfl | exact ev_entry hF (by repeat (first | exact memH | apply memT)) rfl))) | (refine TL.storeAFr hF rfl rfl rfl rfl (by refine ⟨?_, ?_⟩; (focus (repeat (first | apply SetV.head | apply SetV.tail))); rfl) rfl ?_; clear hF; intro ws hF) | (refine TL.nextFr hF (.inl hr) (nfC (nf_mp hmr) (nfC (nf_cb hgr) (nfC nf_gv nfN))) rfl rfl (fun h0 wn hFn => ?_) (fun p todo' wn ht hFn => ?_) <;> clear hF <;> have hF := hFn <;> clear hFn) | (refine TL.allocFr hF (d := 6) rfl rfl ?_; clear hF; intro w6 b6 hF) | (refine TL.allocFr hF (d := 7) rfl rfl ?_; clear hF; intro w7 b7 hF) | (refine TL.buildXs hF (f := plc) (d := 28) [((i, p.1.2), p.2)] [.tmp 27] rfl rfl rfl rfl (by intro u hu; rfl) rfl rfl (by omega) (by omega) ?_; clear hF; intro w28 b28 hF hEn hbn hSn) | (refine TL.appendAtFr (f := plc) (l := inRow i done) (zs := zp) hF rfl rfl rfl rfl hSn (fun _ => rfl) (fun _ => rfl) rfl rfl rfl hbz hbc (plc_no _ hbo) (by omega) (by repeat (first | exact SetV.head | apply SetV.tail)) (fun hle wa hFn => ?_) (fun hgt wa ba ca za hca hza hzan hFn => ?_) <;> clear hF hSn <;> have hF := hFn <;> clear hFn)) | (refine T.is ?_; first | refine T.seq ?_ | refine T.region ?_ | refine T.block ?_ | refine T.cond_t rfl ?_ | refine T.cond_f rfl ?_ | refine T.exit ?_ | refine T.ret ?_ | refine T.skip ?_) | (refine G.is ?_; first | refine G.next ?_ | refine G.blockN ?_ | refine G.blockE ?_ | refine G.thenE ?_) | refine TL.nil ?_)
    · subst h0
      rw [List.append_nil] at hp
      exact G.ret1 rfl rfl ⟨inRow i done, some (bp, cp, zp), (hp.filter _).symm, ⟨hb0, hbc, hbz, hbo⟩, rfl, hF.weak (List.Sublist.refl _) allN⟩
    · have e := inRow_snoc_t hc (l := done)
      rw [place_eq hc] at hF
      refine G.again (done ++ [p], todo', some (bp, cp, zp.drop (1 * 4))) ?_ ⟨step_perm hp ht, ?_, ?_⟩ (step_mu ht)
      · dsimp only; rw [e, List.length_append]; exact (by repeat (first | exact Sub.nil _ | refine Sub.cons rfl ?_ | refine Sub.cons' rfl (int_congr (by omega)) ?_))
      · dsimp only; rw [e]; exact ⟨by simp, by simpa using hle, by rw [List.length_drop, List.length_append, hbz]; simp only [List.length_cons, List.length_nil]; omega, drop_noV hbo _⟩
      · dsimp only; rw [e]; exact hF.weak (.cons _ (.cons _ (.refl _))) allR
    · have e := inRow_snoc_t hc (l := done)
      rw [place_eq hc] at hF
      refine G.again (done ++ [p], todo', some (ba, ca, za)) ?_ ⟨step_perm hp ht, ?_, ?_⟩ (step_mu ht)
      · dsimp only; rw [e, List.length_append]; exact (by repeat (first | exact Sub.nil _ | refine Sub.cons rfl ?_ | refine Sub.cons' rfl (int_congr (by omega)) ?_))
      · dsimp only; rw [e]; exact ⟨by simp, by simpa using hca, by rw [List.length_append]; exact hza, hzan⟩
      · dsimp only; rw [e]; exact hF.weak (.cons_cons _ (List.nil_sublist _)) allR
    · have e := inRow_snoc_f hc (l := done)
      refine G.again (done ++ [p], todo', some (bp, cp, zp)) ?_ ⟨step_perm hp ht, ?_, ?_⟩ (step_mu ht)
      · dsimp only; rw [e]; exact (by repeat (first | exact Sub.nil _ | refine Sub.cons rfl ?_ | refine Sub.cons' rfl (int_congr (by omega)) ?_))
      · dsimp only; rw [e]; exact ⟨hb0, hbc, hbz, hbo⟩
      · dsimp only; rw [e]; exact hF.weak (.cons _ (.cons _ (.refl _))) allR
end Go.Proofs.YtlpheckjogphmaaGreat
set_option linter.unusedSectionVars false
namespace Go.Eng
open Go Go.Proofs Go.NatM Go.RowKit Go.Proofs.YtlpheckjogphmaaGreat
section
variable {K V : Type} [DecidableEq K]
end
theorem mem_inRow {i : Int} {l : GL} {p : (Int × Int) × IV} : p ∈ inRow i l ↔ p ∈ l ∧ p.1.1 = i := by simp [inRow]
def slA : PB → Option Addr
  | none => none
  | some (b, _, _) => some ⟨b, 0, none⟩
def slC : PB → Nat
  | none => 0
  | some (_, c, _) => c
theorem slv_eq {l : GL} {pb : PB} (h : PBok l pb) : slv l.length pb = .slice (slA pb) l.length (slC pb) := by
  cases pb with
  | none => have : l = [] := h; rw [this]; rfl
  | some x => rfl
section
variable {S : Nat → Prop} {w0 w w' : World} {L : List VB} {D : List DP}
theorem plc_sm {l : GL} {pb : PB} (h : PBok l pb) (hF : Fr w w' (lvb l pb) []) : Sm 4 plc w'.heap w'.heap.size (slA pb) l.length (slC pb) l ∧ ∀ b, fpA (slA pb) l.length b → w.heap.size ≤ b := by
  cases pb with
  | none => have e : l = [] := h; subst e; exact ⟨⟨rfl, Nat.le_refl _, (by decide), fun _ h => (by cases h), .inl rfl⟩, fun b hb => absurd hb.1 (Nat.lt_irrefl _)⟩
  | some x =>
    obtain ⟨b, c, zs⟩ := x
    obtain ⟨h0, hc, hz, _⟩ := h
    have hV := hF.var (b := b) .head
    refine ⟨vr_sm (by decide) (fun _ _ => rfl) hV rfl hc hV.lt, fun k hk => ?_⟩
    obtain ⟨_, o, e⟩ := hk
    cases e
    exact ((hF.vars _ (List.mem_cons_self ..)).1).resolve_right id
theorem Fr.sm_mp {α : Type} {k : Nat} {f : α → List Value} {A : Option Addr} {n c m : Nat} {l : List α} {K V : Type} [DecidableEq K] {f' : K → Value} {g' : V → Value} {l' : List (K × V)} (hF : Fr w0 w L D S) (h1 : dpSmG k f A n c l ∈ D) (h2 : dpMp f' g' m l' ∈ D) : ¬ fpA A n m := fun ⟨hn, o, e⟩ => by
  have hs := hF.smG h1
  obtain ⟨es, kk, hm, _⟩ := hF.mp h2
  have hl := hs.len
  have hp := hs.pos
  rcases hs.mem with h | ⟨b, o', e', _, hc⟩
  · omega
  · rw [e] at e'
    cases e'
    have hw := hs.wid l[0] (List.getElem_mem (by omega))
    have := hc 0 l[0] (List.getElem?_eq_getElem (by omega)) 0 (f l[0])[0] (List.getElem?_eq_getElem (by omega))
    unfold hcell at this
    rw [hm] at this
    cases this
theorem Fr.addSm' {α : Type} {k : Nat} {f : α → List Value} {A : Option Addr} {n c : Nat} {l : List α} (hF : Fr w0 w L D S) (hE : Ext w w') (hs : Sm k f w'.heap w'.heap.size A n c l) (hf : ∀ b, fpA A n b → w.heap.size ≤ b) : Fr w0 w' L (dpSmG k f A n c l :: D) S :=
  hF.addNew hE _ (by unfold dpSmG; exact hs) fun b hb => hf b (by unfold dpSmG at hb; exact hb)
end
end Go.Eng
namespace Go.Proofs.YtlpheckjogphmaaGreat
open Go Go.Eng Go.Proofs Go.NatM Go.RowKit
def RetPs (w : World) (Q : GL → Prop) (e : Ending) (w' : World) : Prop := ∃ (l' : GL) (A : Option Addr) (k : Nat), Q l' ∧ e = .returned (.slice A l'.length k) ∧ Ext w w' ∧ Sm 4 plc w'.heap w'.heap.size A l'.length k l' ∧ ∀ b, fpA A l'.length b → w.heap.size ≤ b
theorem RetPl.ps {w : World} {Q : GL → Prop} {e : Ending} {w' : World} (h : RetPl w Q e w') : RetPs w Q e w' := by
  obtain ⟨l', pb, hq, hb, rfl, hF⟩ := h
  have := plc_sm hb hF
  exact ⟨l', slA pb, slC pb, hq, by rw [slv_eq hb], hF.ext, this.1, this.2⟩
theorem take_snoc {α : Type} {l : List α} {k : Nat} {p : α} (h : l[k]? = some p) : l.take (k + 1) = l.take k ++ [p] := by rw [List.take_add_one, h]; rfl
end Go.Proofs.YtlpheckjogphmaaGreat
set_option linter.unusedSectionVars false
namespace Go.Eng
open Go Go.Proofs Go.NatM Go.RowKit Go.Proofs.YtlpheckjogphmaaGreat
section
variable {K V : Type} [DecidableEq K]
theorem lkp_iff {l : List (K × V)} (hn : (l.map (·.1)).Nodup) {x : K} {v : V} : lkp l x = some v ↔ (x, v) ∈ l := ⟨lkp_mem, lkp_of_mem hn⟩
theorem lkp_perm {l l' : List (K × V)} (hn : (l.map (·.1)).Nodup) (h : l.Perm l') (x : K) : lkp l x = lkp l' x := by
  have hn' : (l'.map (·.1)).Nodup := (h.map _).nodup_iff.1 hn
  cases hq : lkp l' x with
  | none => rw [lkp_none] at hq ⊢; exact fun hm => hq ((h.map _).mem_iff.1 hm)
  | some v => rw [lkp_iff hn]; exact h.mem_iff.2 ((lkp_iff hn').1 hq)
theorem lkp_filter (P : K → Bool) : ∀ (l : List (K × V)) (x : K), lkp (l.filter fun p => P p.1) x = if P x then lkp l x else none
  | [], x => by simp [lkp]
  | (y, u) :: l, x => by
    by_cases hP : P y
    · simp only [List.filter_cons, hP, if_true, lkp]
      by_cases h : y = x
      · subst h; simp [hP]
      · simp only [h, if_false]; exact lkp_filter P l x
    · have : (P y) = false := by simpa using hP
      simp only [List.filter_cons, this, Bool.false_eq_true, if_false, lkp]
      by_cases h : y = x
      · subst h; rw [lkp_filter P l y]; simp [this]
      · simp only [h, if_false]; exact lkp_filter P l x
end
theorem lkp_inRow (i : Int) (l : GL) (x y : Int) : lkp (inRow i l) (x, y) = if x = i then lkp l (x, y) else none := by
  have := lkp_filter (fun k : Int × Int => decide (k.1 = i)) l (x, y)
  simp only [decide_eq_true_eq] at this
  exact this
def swp (i j x : Int) : Int := if x = i then j else if x = j then i else x
section
variable {S : Nat → Prop} {w0 w w' : World} {L : List VB} {D : List DP}
end
end Go.Eng
namespace Go.Proofs.YtlpheckjogphmaaGreat
open Go Go.Eng Go.Proofs Go.NatM Go.RowKit
end Go.Proofs.YtlpheckjogphmaaGreat
set_option linter.unusedSectionVars false
namespace Go.Eng
open Go Go.Proofs Go.NatM Go.RowKit Go.Proofs.YtlpheckjogphmaaGreat
def Lk (t : Int × Int → Int × Int) (done lo : GL) : Prop := lo.map (fun p => (p.1, ival p.2)) = done.map (fun p => (t p.1, ival p.2))
def zk (l : GL) (k : Int × Int) : Option Int := (lkp l k).map ival
theorem Lk.keys {t : Int × Int → Int × Int} {done lo : GL} (h : Lk t done lo) : lo.map (·.1) = done.map (fun p => t p.1) := by
  have := congrArg (List.map Prod.fst) h
  simpa [List.map_map, Function.comp_def] using this
theorem Lk.snoc {t : Int × Int → Int × Int} {done lo : GL} (h : Lk t done lo) {p : (Int × Int) × IV} {y : IV} (e : ival y = ival p.2) : Lk t (done ++ [p]) (lo ++ [(t p.1, y)]) := by
  unfold Lk at h ⊢
  rw [List.map_append, List.map_append, h]
  simp [e]
theorem Lk.zk {t : Int × Int → Int × Int} (ht : ∀ a b, t a = t b → a = b) {done lo : GL} (h : Lk t done lo) (k : Int × Int) : zk lo (t k) = Go.Eng.zk done k := by
  induction lo generalizing done with
  | nil =>
    cases done with
    | nil => rfl
    | cons p done => simp [Lk] at h
  | cons q lo ih =>
    cases done with
    | nil => simp [Lk] at h
    | cons p done =>
      obtain ⟨qk, qv⟩ := q
      obtain ⟨pk, pv⟩ := p
      simp only [Lk, List.map_cons, List.cons.injEq, Prod.mk.injEq] at h
      have ih := ih (done := done) h.2
      unfold Go.Eng.zk at ih ⊢
      simp only [lkp]
      by_cases hk : pk = k
      · subst hk
        rw [if_pos h.1.1, if_pos rfl]
        simp [h.1.2]
      · rw [if_neg (fun e => hk (ht _ _ (h.1.1.symm.trans e))), if_neg hk]
        exact ih
theorem Lk.new {t : Int × Int → Int × Int} (ht : ∀ a b, t a = t b → a = b) {l done lo todo : GL} {p : (Int × Int) × IV} (h : Lk t done lo) (hn : (l.map (·.1)).Nodup) (hp : l.Perm (done ++ [p] ++ todo)) : t p.1 ∉ lo.map (·.1) := by
  rw [h.keys]
  intro hm
  obtain ⟨q, hq, e⟩ := List.mem_map.1 hm
  have h1 : ((done ++ [p] ++ todo).map (·.1)).Nodup := ((hp.map _).nodup_iff).1 hn
  rw [List.map_append, List.map_append] at h1
  have h2 := (List.nodup_append.1 h1).1
  have h3 := (List.nodup_append.1 h2).2.2 _ (List.mem_map.2 ⟨q, hq, rfl⟩) p.1 (by simp)
  exact h3 (ht _ _ e)
theorem Lk.len {t : Int × Int → Int × Int} {done lo : GL} (h : Lk t done lo) : lo.length = done.length := by
  have := congrArg List.length h
  simpa using this
section
variable {S : Nat → Prop} {w0 w w' : World} {L : List VB} {D : List DP}
theorem Fr.gvSnoc {lo : GL} {q : Int × Int} {y : IV} {z : Int} (hF : Fr w0 w L D S) (h1 : dpGv lo ∈ D) (hy : LI w.heap z y) (hn : y.m.n ≤ 16384) : Fr w0 w L (dpGv (lo ++ [(q, y)]) :: D) S := by
  have h6 := hF.data _ h1
  unfold dpGv at h6
  refine Fr.addGv hF fun p hp => ?_
  rcases List.mem_append.1 hp with hp | hp
  · exact h6 p hp
  · simp only [List.mem_cons, List.not_mem_nil, or_false] at hp
    subst hp
    exact ⟨hy.val.symm ▸ hy, hn⟩
end
def idk (k : Int × Int) : Int × Int := k
theorem idk_inj (a b : Int × Int) (h : idk a = idk b) : a = b := h
end Go.Eng
namespace Go.Proofs.YtlpheckjogphmaaGreat
open Go Go.Eng Go.Proofs Go.NatM Go.RowKit
theorem pm_mem {α : Type} {l a b b' : List α} {p : α} (h : l.Perm (a ++ b)) (k : b.Perm (p :: b')) : p ∈ l := h.mem_iff.2 (List.mem_append_right _ (k.mem_iff.2 (List.mem_cons_self ..)))
end Go.Proofs.YtlpheckjogphmaaGreat
set_option linter.unusedSectionVars false
namespace Go.Eng
open Go Go.Proofs Go.NatM Go.RowKit Go.Proofs.YtlpheckjogphmaaGreat
def zv (l : GL) (k : Int × Int) : Int := ival (at0 l k)
def NZ (l : GL) : Prop := ∀ p ∈ l, ival p.2 ≠ 0
def bigZ (z : Int) : Prop := 1048576 < bl z.natAbs
theorem ival_nat (x : IV) : (ival x).natAbs = NatM.val x.m.l := by unfold ival; exact sgn_abs ..
theorem big_iff (x : IV) : big x ↔ bigZ (ival x) := by unfold big bigZ; rw [ival_nat]
theorem zv_none {l : GL} {k : Int × Int} (h : lkp l k = none) : zv l k = 0 := by unfold zv at0; rw [h]; rfl
theorem zv_some {l : GL} {k : Int × Int} {y : IV} (h : lkp l k = some y) : zv l k = ival y := by unfold zv at0; rw [h]; rfl
theorem zv_zk {l : GL} {k : Int × Int} : zv l k = (zk l k).getD 0 := by
  unfold zk
  cases h : lkp l k with
  | none => rw [zv_none h]; rfl
  | some y => rw [zv_some h]; rfl
theorem NZ.iff {l : GL} (h : NZ l) (k : Int × Int) : (lkp l k).isSome = true ↔ zv l k ≠ 0 := by
  cases hq : lkp l k with
  | none => simp [zv_none hq]
  | some y => rw [zv_some hq]; simp; exact h _ (lkp_mem hq)
theorem NZ.keys {l : GL} (h : NZ l) (k : Int × Int) : k ∈ l.map (·.1) ↔ zv l k ≠ 0 := by
  rw [← h.iff k]
  cases hq : lkp l k with
  | none => simp [lkp_none.1 hq]
  | some y => simp; exact ⟨y, lkp_mem hq⟩
theorem NZ.len {l l' : GL} (h : NZ l) (h' : NZ l') (hn : (l.map (·.1)).Nodup) (hn' : (l'.map (·.1)).Nodup) (e : ∀ k, zv l k = zv l' k) : l.length = l'.length := by
  have hp : (l.map (·.1)).Perm (l'.map (·.1)) := (List.perm_ext_iff_of_nodup hn hn').2 fun k => by rw [h.keys, h'.keys, e]
  simpa using hp.length_eq
theorem NZ.perm {l l' : GL} (h : NZ l) (hp : l.Perm l') : NZ l' := fun p hm => h p (hp.mem_iff.2 hm)
theorem NZ.sub {l l' : GL} (h : NZ l) (hs : ∀ p ∈ l', p ∈ l) : NZ l' := fun p hm => h p (hs p hm)
def putL (l : GL) (k : Int × Int) (y : IV) : GL := if ival y = 0 then del l k else ups l k y
theorem putL_nodup {l : GL} (hn : (l.map (·.1)).Nodup) (k : Int × Int) (y : IV) : ((putL l k y).map (·.1)).Nodup := by
  unfold putL; split
  · exact del_nodup hn k
  · exact ups_nodup hn k y
theorem zv_putL {l : GL} (hn : (l.map (·.1)).Nodup) (k : Int × Int) (y : IV) (x : Int × Int) : zv (putL l k y) x = if k = x then ival y else zv l x := by
  unfold putL zv at0
  split
  · rename_i h
    rw [lkp_del hn]
    by_cases hk : k = x
    · simp [hk, h]; rfl
    · simp [hk]
  · rw [lkp_ups]
    by_cases hk : k = x <;> simp [hk]
theorem lkp_putL {l : GL} (hn : (l.map (·.1)).Nodup) (k : Int × Int) (y : IV) (x : Int × Int) (hk : k ≠ x) : lkp (putL l k y) x = lkp l x := by
  unfold putL
  split
  · rw [lkp_del hn, if_neg hk]
  · rw [lkp_ups, if_neg hk]
theorem NZ.put {l : GL} (h : NZ l) (k : Int × Int) (y : IV) : NZ (putL l k y) := by
  unfold putL
  split
  · exact h.sub fun p hp => (del_sub l k).subset hp
  · rename_i hy
    intro p hp
    rcases ups_mem hp with rfl | hp
    · exact hy
    · exact h p hp
theorem putL_mem {l : GL} {k : Int × Int} {y : IV} {p : (Int × Int) × IV} (hp : p ∈ putL l k y) : p = (k, y) ∨ p ∈ l := by
  unfold putL at hp
  split at hp
  · exact .inr ((del_sub l k).subset hp)
  · exact ups_mem hp
theorem putL_len (l : GL) (k : Int × Int) (y : IV) : ((putL l k y).length : Int) = (l.length : Int) - (if (lkp l k).isSome then 1 else 0) + (if ival y ≠ 0 then 1 else 0) := by
  unfold putL
  split
  · rename_i h
    rw [del_length]
    cases hq : lkp l k with
    | none => simp [h]
    | some v =>
      have := List.length_pos_of_mem (lkp_mem hq)
      simp [h]; omega
  · rename_i h
    rw [ups_length]
    cases hq : lkp l k <;> simp [h] <;> omega
theorem zv_snoc {l : GL} {p : (Int × Int) × IV} (h : p.1 ∉ l.map (·.1)) (x : Int × Int) : zv (l ++ [p]) x = if p.1 = x then ival p.2 else zv l x := by
  have := ups_new h p.2
  unfold zv at0
  rw [← this, lkp_ups]
  by_cases hk : p.1 = x <;> simp [hk]
theorem small_of {H : Array Obj} {y : IV} {z : Int} (h : LI H z y) (hn : y.m.n ≤ 16384) : ¬ bigZ z := by
  unfold bigZ
  have h1 := h.val
  have h2 : z.natAbs < 18446744073709551616 ^ y.m.n := by
    rw [← h1, ival_nat]
    have := val_lt h.g.u
    rwa [h.g.s.len] at this
  have h3 : z.natAbs < 2 ^ (64 * y.m.n) := by rw [Nat.pow_mul]; exact h2
  have h4 := bl_le.2 h3
  omega
theorem bigZ_zero : ¬ bigZ 0 := by unfold bigZ; rw [show bl (Int.natAbs 0) = 0 from rfl]; omega
theorem gv_small {H : Array Obj} {l : GL} (h : ∀ p ∈ l, LI H (ival p.2) p.2 ∧ p.2.m.n ≤ 16384) (k : Int × Int) : ¬ bigZ (zv l k) := by
  cases hq : lkp l k with
  | none => rw [zv_none hq]; exact bigZ_zero
  | some y => rw [zv_some hq]; have := h _ (lkp_mem hq); exact small_of this.1 this.2
theorem few_of {H : Array Obj} {y : IV} {z : Int} (h : LI H z y) (hb : ¬ bigZ z) : y.m.n ≤ 16384 := by
  rw [← h.g.s.len, h.d]
  refine words_bl ?_
  unfold bigZ at hb
  omega
end Go.Eng
namespace Go.Proofs.YtlpheckjogphmaaGreat
open Go Go.Eng Go.Proofs Go.NatM Go.RowKit
theorem gput_ok (w : World) (g m r c : Nat) (l : GL) (p : Int × Int) (x : IV) (z : Int) (hG : Gr w.heap g m r c l) (hx : LI w.heap z x) (hn : x.m.n ≤ 16384) :
    Cl Tryz.prog 35 #[.pointer (some ⟨g, 0, none⟩), spot p, ivA x] w (RetW w g m r c (putL l p x) (.tuple #[])) := by
  have e := hx.val
  unfold putL
  rw [e]
  by_cases hz : z = 0
  · rw [if_pos hz]; subst hz; exact gput_zero w g m r c l p x hG hx hn
  · rw [if_neg hz]; exact gput_put w g m r c l p x z hG hx hn hz
end Go.Proofs.YtlpheckjogphmaaGreat
set_option linter.unusedSectionVars false
namespace Go.Eng
open Go Go.Proofs Go.NatM Go.RowKit Go.Proofs.YtlpheckjogphmaaGreat
section
variable {S : Nat → Prop} {w0 w w' : World} {L : List VB} {D : List DP}
end
theorem add_step {l l2 done todo lo : GL} {p : (Int × Int) × IV} {y : IV} (hn2 : (l2.map (·.1)).Nodup) (hno : (lo.map (·.1)).Nodup) (hp : l2.Perm (done ++ [p] ++ todo)) (h : ∀ k, zv lo k = zv l k + zv done k) (hy : ival y = zv lo p.1 + ival p.2) : ∀ k, zv (putL lo p.1 y) k = zv l k + zv (done ++ [p]) k := by
  have hd : p.1 ∉ done.map (·.1) := by
    have h1 : ((done ++ [p] ++ todo).map (·.1)).Nodup := ((hp.map _).nodup_iff).1 hn2
    rw [List.map_append, List.map_append] at h1
    have h2 := (List.nodup_append.1 (List.nodup_append.1 h1).1).2.2
    exact fun hm => h2 _ hm p.1 (by simp) rfl
  intro k
  rw [zv_putL hno, zv_snoc hd, hy]
  by_cases hk : p.1 = k
  · subst hk
    have h0 : zv done p.1 = 0 := zv_none (lkp_none.2 hd)
    simp [h, h0]
  · simp [hk, h]
end Go.Eng
namespace Go.Proofs.YtlpheckjogphmaaGreat
open Go Go.Eng Go.Proofs Go.NatM Go.RowKit
def Refu (Z : Int × Int → Int) : Prop := (∃ k, bigZ (Z k)) ∨ ∃ l' : GL, NZ l' ∧ (l'.map (·.1)).Nodup ∧ (∀ k, zv l' k = Z k) ∧ 4096 < l'.length
theorem long_t (w : World) (x : IV) (g : GI w.heap x) (hn : x.m.n ≤ 1099511627776) (h : bigZ (ival x)) : Cl Tryz.prog 32 #[ivA x] w (fun e w' => e = .returned (.bool true) ∧ Ext w w') := long_ok w x g hn true ⟨fun _ => (big_iff x).2 h, fun _ => rfl⟩
theorem long_f (w : World) (x : IV) (g : GI w.heap x) (hn : x.m.n ≤ 1099511627776) (h : ¬ bigZ (ival x)) : Cl Tryz.prog 32 #[ivA x] w (fun e w' => e = .returned (.bool false) ∧ Ext w w') := long_ok w x g hn false ⟨fun h => (by cases h), fun hb => absurd ((big_iff x).1 hb) h⟩
end Go.Proofs.YtlpheckjogphmaaGreat
