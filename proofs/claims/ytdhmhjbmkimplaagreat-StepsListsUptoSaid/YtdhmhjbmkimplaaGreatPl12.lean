/- The engine: a list appended to a new, empty one; a part, of many cells, of an element. Layer 11: copies of integers, rows, matrices and steps. Layer 11: Check and Sign, told exactly, of the program and of the document. -/
import Derived.Test.YtdhmhjbmkimplaaGreatPl8
import Derived.Test.YtdhmhjbmkimplaaGreatPl10
import Derived.Test.YtdhmhjbmkimplaaGreatPl11
set_option linter.unusedVariables false
set_option linter.unusedSimpArgs false
namespace Go.Eng
open Go Go.RowKit

section
variable {P : Program} {N : Fm} {Q : Exit → Act → World → Prop} {σ : Store} {w : World} {ops : Array Oper} {d : Nat} {t : TypeId} {pos : String} {af : Array Edge} {rest : List Oper}
theorem TL.appendCp {α : Type} {f : α → Value} (h1 : ∀ u, (f u).cells = #[f u]) {x y : Operand} {ty e : TypeId} [hT : USlice P ty e] {z : Value} {b1 : Nat} [hS : USize P e z 1 b1] {b m c' B : Nat} {A' : Option Addr} {l' : List α}
    (hx : look σ x = some (.slice (some ⟨b, 0, none⟩) 0 0)) (hy : look σ y = some (.slice A' m c')) (hd : Nat.blt d N.n = true) (hs : Sl f w.heap B A' m c' l') (hroom : m * b1 ≤ 140737488355328 ∧ m ≤ 4611686018427387904)
    (K : ∀ w' A2 c2, Ext w w' → Sl f w'.heap w'.heap.size A2 m c2 l' → (m = 0 ∨ ∃ g, A2 = some ⟨g, 0, none⟩ ∧ w.heap.size ≤ g) → TL P N .seq ops Q rest ((d, .slice A2 m c2) :: σ) w') :
    TL P N .seq ops Q (⟨some d, .call { callee := .builtin .append, args := #[x, y], argTypes := #[ty, ty] }, t, pos, af, none⟩ :: rest) σ w := by
  obtain ⟨i, hi, hz0, hsz, hby⟩ := hS.info
  have hl' := hs.len
  rcases Nat.eq_zero_or_pos m with h0 | h0
  · subst h0
    exact TL.appendZero hx hy hd (Nat.le_refl _) (K w _ 0 (Ext.refl _) ⟨hl', Nat.le_refl _, .inl rfl⟩ (.inl rfl))
  · rcases hs.mem with h | ⟨g, o, rfl, _, hm⟩
    · omega
    have hr := run_append_grow (P := P) (w := w) ty t e i z hT.out hi hz0 ⟨b, 0, none⟩ 0 0 [] (by simp) (fun j v hj => by simp at hj) ⟨g, o, none⟩ m c' (l'.map f) (by rw [List.length_map, hl', hsz, Nat.mul_one])
      (fun j v hj => by
        rw [List.getElem?_map] at hj
        cases hq : l'[j]? with
        | none => rw [hq] at hj; cases hj
        | some u =>
          rw [hq] at hj
          cases hj
          rw [add_mk, cell_of_hcell]
          exact hm j u hq) (by omega) (by omega) (by rw [Nat.zero_add, nextslicecap_zero h0, hby]; omega)
    simp only [Nat.zero_add] at hr
    have hE : Ext w (w.drew.alloc (.cells (#[] ++ (l'.map f).toArray ++ Builtin.zeroCells z.cells (grownCap w m 0 e - m)) e)) := Ext.trans (ext_drewN w 1) (ext_alloc _ _)
    refine TL.op (fun ρ hρ => ?_) hd (K _ (some ⟨w.heap.size, 0, none⟩) (grownCap w m 0 e) hE ⟨hl', grownCap_ge w m 0 e, .inr ⟨w.heap.size, 0, rfl, ?_, fun j u hu => ?_⟩⟩ (.inr ⟨_, rfl, Nat.le_refl _⟩))
    · simp [execOp, resolve, invoke, builtin, hρ x _ hx, hρ y _ hy, hr]
    · rw [size_alloc]; exact Nat.lt_succ_self _
    · unfold hcell
      have := heap_alloc w.drew (.cells (#[] ++ (l'.map f).toArray ++ Builtin.zeroCells z.cells (grownCap w m 0 e - m)) e)
      rw [show w.drew.heap.size = w.heap.size from rfl] at this
      rw [this]
      simp only [Array.empty_append, Nat.zero_add]
      have hj := (List.getElem?_eq_some_iff.1 hu).1
      rw [Array.getElem?_append_left (by simpa using hj)]
      simp [hu]
end
section
variable {P : Program} {σ : Store} {H : Array Obj} {d : Option Tmp} {t : TypeId} {pos : String} {af : Array Edge} {gd : Option (Nat × Bool)}
theorem subV_getElem : ∀ (n : Nat) (cs : List Value) (off : Nat) (r : List Value), subV cs off n = some r → r.length = n ∧ ∀ (q : Nat) v, r[q]? = some v → cs[off + q]? = some v
  | 0, cs, off, r, h => by
    simp [subV] at h
    subst h
    exact ⟨rfl, fun q v hq => by simp at hq⟩
  | n + 1, cs, off, r, h => by
    unfold subV at h
    cases h1 : nthV cs off with
    | none => rw [h1] at h; cases h
    | some u =>
      rw [h1] at h
      cases h2 : subV cs (off + 1) n with
      | none => rw [h2] at h; cases h
      | some l =>
        rw [h2] at h
        cases h
        obtain ⟨i1, i2⟩ := subV_getElem n cs (off + 1) l h2
        refine ⟨by simp [i1], fun q v hq => ?_⟩
        cases q with
        | zero =>
          simp at hq
          subst hq
          rw [nthV_eq] at h1
          simpa using h1
        | succ q =>
          rw [List.getElem?_cons_succ] at hq
          have := i2 q v hq
          rwa [show off + 1 + q = off + (q + 1) by omega] at this
/-- a field of many cells of an element -/
theorem ev_loadMS {x : Operand} {ty : TypeId} [hA : UAgg P ty] {z : Value} {sz' b1 : Nat} [hS : USize P ty z sz' b1] {sz off : Nat} {α : Type} {f : α → List Value} {B n c i : Nat} {A : Option Addr} {l : List α} {y : α} {cs : List Value}
    (hx : look σ x = some (.pointer (elemA A (i * sz + off)))) (hs : Sm sz f H B A n c l) (hy : l[i]? = some y) (hv : subV (f y) off sz' = some cs) : Ev P σ H ⟨d, .load ty x, t, pos, af, gd⟩ (.agg cs.toArray) := by
  unfold Ev
  intro ρ w hρ hH
  have hi := (List.getElem?_eq_some_iff.1 hy).1
  have hlen := hs.len
  obtain ⟨hl, hq⟩ := subV_getElem _ _ _ _ hv
  rcases hs.mem with h0 | ⟨b, o, rfl, _, hc⟩
  · omega
  · obtain ⟨fs, hfs⟩ := hA.out
    obtain ⟨ii, hii, _, hsz, _⟩ := hS.info
    have hr : w.rangeAt b (o + (i * sz + off)) cs := fun q v hv => by
      rw [cell_of_hcell, hH, Nat.add_assoc, Nat.add_assoc]
      exact hc i y hy _ v (hq q v hv)
    have := run_loadAt_mid (P := P) w b (o + (i * sz + off)) ty cs _ hr hfs rfl (by rw [hii]; simp [hsz, hl])
    have e : look σ x = some (.pointer (some ⟨b, o + (i * sz + off), none⟩)) := by rw [hx]; simp [elemA, add_mk]
    simp [execOp, hρ x _ e, this]
end
end Go.Eng

namespace Go.Proofs.YtdhmhjbmkimplaaGreat
open Go Go.Eng Go.Proofs Go.NatM Go.RowKit

/-- the same integer in the same form -/
def SameI (x y : IV) : Prop := y.neg = x.neg ∧ y.m.l = x.m.l ∧ y.m.n = x.m.n
theorem same_ival {x y : IV} (h : SameI x y) : ival y = ival x := by unfold ival; rw [h.1, h.2.1]
def RetCp (w : World) (x : IV) (e : Ending) (w' : World) : Prop := ∃ y : IV, e = .returned (.agg (ivc y).toArray) ∧ SameI x y ∧ GI w'.heap y ∧ Ext w w'
theorem copy_ok (w : World) (x : IV) (g : GI w.heap x) (hn : x.m.n ≤ 1099511627776) : Cl Tryz.prog 41 #[.agg (ivc x).toArray] w (RetCp w x) := by
  have hs := g.s
  have hu := g.u
  obtain ⟨neg, ⟨A, n, c, l⟩⟩ := x
  dsimp only at hs hu hn
  refine enter Tryz.func41 rfl rfl rfl ?_
  have hF := Fr.refl w
  repeat' (first | (refine TL.isOp ?_; first | (refine TL.storeAFr hF rfl rfl rfl rfl (by refine ⟨?_, ?_⟩; (focus (repeat (first | apply SetV.head | apply SetV.tail))); rfl) rfl ?_; clear hF; intro ws hF) | (refine TL.boxAFr hF (d := 1) (cs := [.bool neg, .slice A n c]) rfl rfl ?_; clear hF; intro w1 b1 hF) | (refine TL.allocFr hF (d := 2) rfl rfl ?_; clear hF; intro w2 b2 hF) | (refine TL.build0 u64v rfl rfl (fun wn bn ebn hBn hEn hzn => ?_); replace hF := hF.exts hEn; clear ebn hBn hEn hzn) | (refine TL.appendCp (f := u64v) (fun _ => rfl) rfl rfl rfl (hs.ext hF.ext) (by omega) (fun wp A2 c2 hE hS2 _ => ?_); replace hF := Fr.addSl (hF.exts hE) hS2; clear hE hS2)) | (refine TF.is ?_; first | refine TF.nil ?_ | refine TF.e rfl ?_ | (refine TF.pick rfl ?_; first | (apply TFo.ev; (case hd => rfl); (case h => (intro wh hF; first | (apply Ev.isLoad; first | exact ev_loadFr hF rfl (by refine ⟨?_, ?_⟩; (focus (repeat (first | exact InV.head | apply InV.tail))); rfl)) | exact ev_fieldAddr rfl | exact ev_buildX rfl rfl))))) | (refine T.is ?_; first | refine T.seq ?_ | refine T.region ?_ | refine T.ret ?_ | (refine T.regionFr hF 1 7 (.s 0 (.s 1 (.s 3 (.s 4 (.e 2 (.e 5 (.s 6 (.e 7 .nil)))))))) mixed (by kernel_rfl) ?_; clear hF; intro wr hF)) | (refine G.is ?_; first | refine G.next ?_ | refine G.only ?_ | refine G.treeEnd rfl ?_ | refine G.tree rfl (by first | exact hF | exact hF.weak (by repeat (first | exact List.Sublist.refl _ | apply List.Sublist.cons)) (by repeat (first | exact allR | apply allT)) | exact hF.weak (by repeat (first | exact List.Sublist.refl _ | apply List.Sublist.cons)) (by repeat (first | exact allN | refine allH (by repeat (first | exact memH | apply memT)) ?_))) ?_) | refine TL.nil ?_)
  exact G.retC1 rfl rfl (held_agg (hF.var (by repeat (first | exact InV.head | apply InV.tail))) rfl) ⟨⟨neg, ⟨A2, n, c2, l⟩⟩, rfl, ⟨rfl, rfl, rfl⟩, ⟨Fr.sl hF (by repeat (first | exact memH | apply memT)), hu⟩, hF.ext⟩
/-- the first i of a list are copies of l -/
def LsG (i : Nat) (l' : List IV) (K : Nat) (H : Array Obj) : Prop := ∀ q, q < i → GI H (l'.getD q default) ∧ (l'.getD q default).m.n ≤ K
def dpLG (i : Nat) (l' : List IV) (K : Nat) : DP := ⟨LsG i l' K, fun _ => False, fun _ _ _ h => h.elim, fun _ _ hd h q hq => ⟨(h q hq).1.de hd, (h q hq).2⟩⟩
section
variable {S : Nat → Prop} {w0 w w' : World} {L : List VB} {D : List DP}
theorem Fr.addLG (h : Fr w0 w L D S) {i : Nat} {l : List IV} {K : Nat} (k : LsG i l K w.heap) : Fr w0 w L (dpLG i l K :: D) S := h.add _ k fun _ _ h => h
theorem Fr.lg (h : Fr w0 w L D S) {i : Nat} {l : List IV} {K : Nat} (hm : dpLG i l K ∈ D) : LsG i l K w.heap := h.data _ hm
end
attribute [irreducible] dpLG

theorem LsG.set {H : Array Obj} {l : List IV} {i K : Nat} {u : IV} (h : LsG i l K H) (hi : i < l.length) (hu : GI H u) (hn : u.m.n ≤ K) : LsG (i + 1) (l.set i u) K H := by
  intro q hq
  by_cases e : q = i
  · subst e
    have e1 : (l.set q u).getD q default = u := by simp [List.getD, hi]
    rw [e1]; exact ⟨hu, hn⟩
  · have e1 : (l.set i u).getD q default = l.getD q default := by simp [List.getD, List.getElem?_set_ne (fun h => e h.symm)]
    rw [e1]; exact h q (by omega)
def RetCr (w : World) (n : Nat) (l : List IV) (K : Nat) (e : Ending) (w' : World) : Prop := ∃ A k l', e = .returned (.slice A n k) ∧ Sm 2 ivc w'.heap w'.heap.size A n k l' ∧ (∀ q, q < n → (GI w'.heap (l'.getD q default) ∧ (l'.getD q default).m.n ≤ K) ∧ SameI (l.getD q default) (l'.getD q default)) ∧ Ext w w' ∧ LF w A n
set_option maxRecDepth 100000 in
set_option maxHeartbeats 1000000 in
theorem copyRow_ok (w : World) (A : Option Addr) (n k K : Nat) (l : List IV) (hs : Sm 2 ivc w.heap w.heap.size A n k l) (hn : n ≤ 1048576) (hg : ∀ y ∈ l, GI w.heap y ∧ y.m.n ≤ K) (hK : K ≤ 1099511627776) :
    Cl Tryz.prog 46 #[.slice A n k] w (RetCr w n l K) := by
  have hlen := hs.len
  refine enter Tryz.func46 rfl rfl rfl ?_
  have hF := Fr.refl w
  repeat' (first | (refine TL.isOp ?_; first | (apply TL.ev; (case hd => rfl); (case h => (first | exact ev_simple rfl | exact ev_len rfl))) | (refine TL.makeFr hF ivc nought (d := 7) rfl rfl rfl (Nat.le_refl _) (by omega) rfl rfl rfl ?_; clear hF; intro w7 b7 hF)) | (refine T.is ?_; first | refine T.seq ?_ | refine T.region ?_ | refine T.block ?_) | (refine G.is ?_; first | refine G.next ?_) | refine TL.nil ?_)
  refine T.loop (α := Nat × List IV) (fun x => [(0, .slice A n k), (3, .slice (some ⟨b7, 0, none⟩) n n), (4, .int .i64 (x.1 : Int))])
    (fun x w' => x.1 ≤ n ∧ x.2.length = n ∧ (∀ q, q < x.1 → SameI (l.getD q default) (x.2.getD q default)) ∧ Fr w w' [⟨b7, 51, x.2.flatMap ivc⟩] [dpLG x.1 x.2 K])
    (fun x => n - x.1) (0, List.replicate n nought) (by repeat (first | exact Sub.nil _ | refine Sub.cons rfl ?_ | refine Sub.cons' rfl (int_congr (by omega)) ?_)) ⟨Nat.zero_le _, List.length_replicate .., fun q hq => absurd hq (Nat.not_lt_zero _), Fr.addLG hF (fun q hq => absurd hq (Nat.not_lt_zero _))⟩ ?_
  clear hF
  rintro ⟨i, zl⟩ w2 ⟨hi, hzl, hsm, hF⟩
  dsimp only at hi hzl hsm hF ⊢
  rcases Nat.lt_or_ge i n with hin | hin
  · have hy : l[i]? = some (l.getD i default) := by simp [List.getD, show i < l.length by omega]
    obtain ⟨gy, gn⟩ := hg _ (List.mem_of_getElem? hy)
    obtain ⟨y, ey⟩ : ∃ y, l.getD i default = y := ⟨_, rfl⟩
    rw [ey] at hy gy gn
    repeat' (first | (refine TL.isOp ?_; first | (refine TL.isCall ?_; refine TL.call rfl rfl ?_; first | (refine (copy_ok _ y (gy.ext hF.ext) (by omega)).mono ?_; rintro _ wl ⟨u, rfl, hSu, hGu, hE⟩; replace hF := Fr.addGI (hF.exts hE) hGu; clear hE hGu; refine Back.mk ?_)) | (refine TL.isBin ?_; refine TL.cmpG rfl rfl rfl rfl (fun hc => ?_) (fun hc => ?_) <;> (try (first | (exfalso; omega) | exact absurd rfl hc))) | (apply TL.ev; (case hd => rfl); (case h => (first | exact ev_simple rfl | (apply Ev.isBin; first | exact ev_arN rfl rfl rfl (by omega)) | (apply Ev.isLoad; first | exact ev_loadM rfl (hs.ext hF.ext) hy) | exact ev_len rfl | exact ev_indexM rfl rfl hin (hs.ext hF.ext).some | exact ev_indexM rfl rfl hin (.inr rfl)))) | (refine TL.storeAtFr hF (f := ivc) u rfl rfl rfl rfl (fun _ => rfl) (by rw [hzl]; exact hin) (ivc_noV zl) (by repeat (first | apply SetV.head | apply SetV.tail)) ?_; clear hF; intro ws hF)) | (refine T.is ?_; first | refine T.seq ?_ | refine T.region ?_ | refine T.block ?_ | refine T.cond_t rfl ?_ | refine T.skip ?_) | (refine G.is ?_; first | refine G.next ?_ | refine G.blockN ?_) | refine TL.nil ?_)
    have hk := (Fr.lg hF (i := i) (l := zl) (by repeat (first | exact memH | apply memT))).set (by omega) (Fr.gi hF (x := u) (by repeat (first | exact memH | apply memT))) (by rw [hSu.2.2]; exact gn)
    refine G.again (i + 1, zl.set i u) (by repeat (first | exact Sub.nil _ | refine Sub.cons rfl ?_ | refine Sub.cons' rfl (int_congr (by omega)) ?_)) ⟨by dsimp only; omega, by rw [List.length_set]; exact hzl, fun q hq => ?_, Fr.addLG (hF.weak (List.Sublist.refl _) allN) hk⟩ (by dsimp only; omega)
    by_cases e : q = i
    · subst e
      have e1 : (zl.set q u).getD q default = u := by simp [List.getD, show q < zl.length by omega]
      rw [e1, ey]; exact hSu
    · have e1 : (zl.set i u).getD q default = zl.getD q default := by simp [List.getD, List.getElem?_set_ne (fun h => e h.symm)]
      dsimp only at hq ⊢
      rw [e1]; exact hsm q (by omega)
  · obtain rfl : i = n := by omega
    repeat' (first | (refine TL.isOp ?_; first | (refine TL.isBin ?_; refine TL.cmpG rfl rfl rfl rfl (fun hc => ?_) (fun hc => ?_) <;> (try (first | (exfalso; omega) | exact absurd rfl hc))) | (apply TL.ev; (case hd => rfl); (case h => (first | exact ev_simple rfl | exact ev_len rfl)))) | (refine T.is ?_; first | refine T.seq ?_ | refine T.region ?_ | refine T.cond_f rfl ?_ | refine T.exit ?_ | refine T.ret ?_) | (refine G.is ?_; first | refine G.next ?_ | refine G.blockE ?_ | refine G.thenE ?_) | refine TL.nil ?_)
    have hb := (hF.lo (b := b7) (by repeat (first | exact InV.head | apply InV.tail))).resolve_right id
    exact G.ret1 rfl rfl ⟨_, _, zl, rfl, vr_sm (zs := []) (by omega) (fun _ _ => rfl) (by rw [List.append_nil]; exact hF.var .head) hzl (Nat.le_refl _) (hF.var .head).lt, fun q hq => ⟨Fr.lg hF (i := i) (l := zl) (by repeat (first | exact memH | apply memT)) q hq, hsm q hq⟩, hF.ext, .inr ⟨b7, rfl, hb⟩⟩
/-- a copy of a matrix -/
structure CpM (x y : MV) : Prop where
  r : y.r = x.r
  c : y.c = x.c
  n : y.n = x.n
  e : ∀ q, q < x.n → ival (y.l.getD q default) = ival (x.l.getD q default)
theorem CpM.sound {x y : MV} (h : CpM x y) (r c : Nat) : Sound y r c ↔ Sound x r c := by
  constructor
  · rintro ⟨h1, h2, h3, h4, h5⟩; exact ⟨h.r ▸ h1, h.c ▸ h2, h3, h4, h.n ▸ h5⟩
  · rintro ⟨h1, h2, h3, h4, h5⟩; exact ⟨h.r.trans h1, h.c.trans h2, h3, h4, h.n.trans h5⟩
def dpRM (x : MV) (K : Nat) : DP := ⟨fun H => RM H x K, fpA x.A x.n, fun _ _ h hk => h.s.fp_lt hk, fun _ _ hd h => h.de hd⟩
section
variable {S : Nat → Prop} {w0 w w' : World} {L : List VB} {D : List DP}
theorem Fr.addRM (h : Fr w0 w L D S) (hE : Ext w w') {x : MV} {K : Nat} (k : RM w'.heap x K) (hf : MF w x) : Fr w0 w' L (dpRM x K :: D) S := h.addNew hE _ k (mf_fp hf)
theorem Fr.rm (h : Fr w0 w L D S) {x : MV} {K : Nat} (hm : dpRM x K ∈ D) : RM w.heap x K := h.data _ hm
end
attribute [irreducible] dpRM

def RetCm (w : World) (x : MV) (K : Nat) (e : Ending) (w' : World) : Prop := ∃ y : MV, e = .returned (.agg (mvc y).toArray) ∧ RM w'.heap y K ∧ CpM x y ∧ Ext w w' ∧ MF w y
theorem rm_of {H : Array Obj} {x : MV} {K : Nat} (hs : Sm 2 ivc H H.size x.A x.n x.k x.l) (h : ∀ q, q < x.n → GI H (x.l.getD q default) ∧ (x.l.getD q default).m.n ≤ K) : RM H x K :=
  ⟨hs, fun y hy => by
    obtain ⟨q, hq⟩ := List.getElem?_of_mem hy
    have hlt := (List.getElem?_eq_some_iff.1 hq).1
    have e : x.l.getD q default = y := by simp [List.getD, hq]
    rw [← e]
    exact h q (by have := hs.len; omega)⟩
theorem copyMat_ok (w : World) (x : MV) (K : Nat) (g : RM w.heap x K) (hn : x.n ≤ 1048576) (hK : K ≤ 1099511627776) : Cl Tryz.prog 12 #[.agg (mvc x).toArray] w (RetCm w x K) := by
  have hs := g.s
  have hg := g.g
  clear g
  obtain ⟨r, c, A, n, k, l⟩ := x
  dsimp only at hs hg hn
  refine enter Tryz.func12 rfl rfl rfl ?_
  have hF := Fr.refl w
  repeat' (first | (refine TL.isOp ?_; first | (refine TL.isCall ?_; refine TL.call rfl rfl ?_; first | (refine (copyRow_ok _ A n k K l (hs.ext hF.ext).size hn (fun y hy => ⟨(hg y hy).1.ext hF.ext, (hg y hy).2⟩) hK).mono ?_; rintro _ wl ⟨A2, k2, l2, rfl, hS2, hG2, hE, hf⟩; have hR : RM wl.heap ⟨r, c, A2, n, k2, l2⟩ K := rm_of hS2 fun q hq => (hG2 q hq).1; have hf2 : MF w ⟨r, c, A2, n, k2, l2⟩ := hf.imp id fun ⟨b, e, hb⟩ => ⟨b, e, Nat.le_trans hF.ext.size hb⟩; replace hF := Fr.addRM hF hE hR hf; clear hE hS2 hR hf; refine Back.mk ?_)) | (refine TL.storeAFr hF rfl rfl rfl rfl (by refine ⟨?_, ?_⟩; (focus (repeat (first | apply SetV.head | apply SetV.tail))); rfl) rfl ?_; clear hF; intro ws hF) | (refine TL.boxAFr hF (d := 1) (cs := [.int .i64 r, .int .i64 c, .slice A n k]) rfl rfl ?_; clear hF; intro w1 b1 hF) | (refine TL.allocFr hF (d := 2) rfl rfl ?_; clear hF; intro w2 b2 hF)) | (refine TF.is ?_; first | refine TF.nil ?_ | refine TF.e rfl ?_ | (refine TF.pick rfl ?_; first | (apply TFo.ev; (case hd => rfl); (case h => (intro wh hF; first | (apply Ev.isLoad; first | exact ev_loadFr hF rfl (by refine ⟨?_, ?_⟩; (focus (repeat (first | exact InV.head | apply InV.tail))); rfl)) | exact ev_fieldAddr rfl | exact ev_buildX rfl rfl))))) | (refine T.is ?_; first | refine T.seq ?_ | refine T.region ?_ | refine T.ret ?_ | (refine T.regionFr hF 1 8 (.s 0 (.s 1 (.s 2 (.s 3 (.s 4 (.s 5 (.e 6 (.s 7 (.e 8 .nil))))))))) mixed (by kernel_rfl) ?_; clear hF; intro wr hF)) | (refine G.is ?_; first | refine G.next ?_ | refine G.only ?_ | refine G.treeEnd rfl ?_ | refine G.tree rfl (by first | exact hF | exact hF.weak (by repeat (first | exact List.Sublist.refl _ | apply List.Sublist.cons)) (by repeat (first | exact allR | apply allT)) | exact hF.weak (by repeat (first | exact List.Sublist.refl _ | apply List.Sublist.cons)) (by repeat (first | exact allN | refine allH (by repeat (first | exact memH | apply memT)) ?_))) ?_) | refine TL.nil ?_)
  exact G.retC1 rfl rfl (held_agg (hF.var (by repeat (first | exact InV.head | apply InV.tail))) rfl) ⟨⟨r, c, A2, n, k2, l2⟩, rfl, Fr.rm hF (by repeat (first | exact memH | apply memT)), ⟨rfl, rfl, rfl, fun q hq => same_ival (hG2 q hq).2⟩, hF.ext, hf2⟩
theorem lfp {w : World} {A : Option Addr} {n : Nat} (h : LF w A n) (k : Nat) (hk : fpA A n k) : w.heap.size ≤ k := by
  obtain ⟨h0, o, e⟩ := hk
  rcases h with h | ⟨b, e', hb⟩
  · omega
  · rw [e] at e'; cases e'; exact hb
/-- steps: what is told of them -/
def cor (s : SP) : Int × Int × Int × Int × Nat := (s.kind, s.i, s.j, ival s.k, s.k.m.n)
/-- a list of steps in memory -/
structure SS (H : Array Obj) (A : Option Addr) (n k : Nat) (L : List SP) : Prop where
  s : Sm 5 spc H H.size A n k L
  g : ∀ s ∈ L, GI H s.k
theorem SS.ext {w w' : World} {A : Option Addr} {n k : Nat} {L : List SP} (hE : Ext w w') (h : SS w.heap A n k L) : SS w'.heap A n k L := ⟨(h.s.ext hE).size, fun s hs => (h.g s hs).ext hE⟩
theorem SS.de {H H' : Array Obj} {A : Option Addr} {n k : Nat} {L : List SP} (hd : DE (fpA A n) H H') (h : SS H A n k L) : SS H' A n k L := ⟨(Sm.de (fun _ h => h) hd h.s).size, fun s hs => (h.g s hs).de hd⟩
def dpSS (A : Option Addr) (n k : Nat) (L : List SP) : DP := ⟨fun H => SS H A n k L, fpA A n, fun _ _ h hk => h.s.fp_lt hk, fun _ _ hd h => h.de hd⟩
section
variable {S : Nat → Prop} {w0 w w' : World} {L : List VB} {D : List DP}
theorem Fr.addSS (h : Fr w0 w L D S) (hE : Ext w w') {A : Option Addr} {n k : Nat} {l : List SP} (g : SS w'.heap A n k l) (hf : LF w A n) : Fr w0 w' L (dpSS A n k l :: D) S := h.addNew hE _ g (lfp hf)
theorem Fr.ss (h : Fr w0 w L D S) {A : Option Addr} {n k : Nat} {l : List SP} (hm : dpSS A n k l ∈ D) : SS w.heap A n k l := h.data _ hm
end
attribute [irreducible] dpSS

def RetCs (w : World) (n : Nat) (L : List SP) (e : Ending) (w' : World) : Prop := ∃ A k L', e = .returned (.slice A n k) ∧ SS w'.heap A n k L' ∧ L'.map cor = L.map cor ∧ Ext w w' ∧ LF w A n
def LsP (i : Nat) (L' : List SP) (H : Array Obj) : Prop := ∀ q, q < i → GI H (L'.getD q default).k
def dpLP (i : Nat) (L' : List SP) : DP := ⟨LsP i L', fun _ => False, fun _ _ _ h => h.elim, fun _ _ hd h q hq => (h q hq).de hd⟩
section
variable {S : Nat → Prop} {w0 w w' : World} {L : List VB} {D : List DP}
theorem Fr.addLP (h : Fr w0 w L D S) {i : Nat} {l : List SP} (k : LsP i l w.heap) : Fr w0 w L (dpLP i l :: D) S := h.add _ k fun _ _ h => h
theorem Fr.lp (h : Fr w0 w L D S) {i : Nat} {l : List SP} (hm : dpLP i l ∈ D) : LsP i l w.heap := h.data _ hm
end
attribute [irreducible] dpLP

theorem spc_noV (l : List SP) : (l.flatMap spc).all noU64 = true := by
  rw [List.all_eq_true]
  intro v hv
  obtain ⟨x, _, hx⟩ := List.mem_flatMap.1 hv
  simp only [spc, List.mem_cons, List.not_mem_nil, or_false] at hx
  rcases hx with rfl | rfl | rfl | rfl | rfl <;> rfl
def zeroSP : SP := ⟨0, 0, 0, nought⟩
set_option maxRecDepth 100000 in
set_option maxHeartbeats 1000000 in
theorem copySteps_ok (w : World) (A : Option Addr) (n k : Nat) (L : List SP) (hs : SS w.heap A n k L) (hn : n ≤ 1048576) (hK : wsum L ≤ 1099511627776) :
    Cl Tryz.prog 9 #[.slice A n k] w (RetCs w n L) := by
  have hlen := hs.s.len
  refine enter Tryz.func9 rfl rfl rfl ?_
  have hF := Fr.refl w
  repeat' (first | (refine TL.isOp ?_; first | (apply TL.ev; (case hd => rfl); (case h => (first | exact ev_simple rfl | exact ev_len rfl))) | (refine TL.makeFr hF spc zeroSP (d := 7) rfl rfl rfl (Nat.le_refl _) (by omega) rfl rfl rfl ?_; clear hF; intro w7 b7 hF)) | (refine T.is ?_; first | refine T.seq ?_ | refine T.region ?_ | refine T.block ?_) | (refine G.is ?_; first | refine G.next ?_) | refine TL.nil ?_)
  refine T.loop (α := Nat × List SP) (fun x => [(0, .slice A n k), (3, .slice (some ⟨b7, 0, none⟩) n n), (4, .int .i64 (x.1 : Int))])
    (fun x w' => x.1 ≤ n ∧ x.2.length = n ∧ (∀ q, q < x.1 → cor (x.2.getD q default) = cor (L.getD q default)) ∧ Fr w w' [⟨b7, 53, x.2.flatMap spc⟩] [dpLP x.1 x.2])
    (fun x => n - x.1) (0, List.replicate n zeroSP) (by repeat (first | exact Sub.nil _ | refine Sub.cons rfl ?_ | refine Sub.cons' rfl (int_congr (by omega)) ?_)) ⟨Nat.zero_le _, List.length_replicate .., fun q hq => absurd hq (Nat.not_lt_zero _), Fr.addLP hF (fun q hq => absurd hq (Nat.not_lt_zero _))⟩ ?_
  clear hF
  rintro ⟨i, zl⟩ w2 ⟨hi, hzl, hsm, hF⟩
  dsimp only at hi hzl hsm hF ⊢
  rcases Nat.lt_or_ge i n with hin | hin
  · have hy : L[i]? = some (L.getD i default) := by simp [List.getD, show i < L.length by omega]
    have hmem := List.mem_of_getElem? hy
    have gy := hs.g _ hmem
    have gn := wsum_mem hmem
    obtain ⟨y, ey⟩ : ∃ y, L.getD i default = y := ⟨_, rfl⟩
    rw [ey] at hy gy gn
    obtain ⟨kd, yi, yj, ⟨yn, ⟨yA, ym, yc, yl⟩⟩⟩ := y
    dsimp only at gy gn
    have hA : A.isSome = true := hs.s.some.resolve_left (by omega)
    repeat' (first | (refine TL.isOp ?_; first | (refine TL.isCall ?_; refine TL.call rfl rfl ?_; first | (refine (copy_ok _ ⟨yn, ⟨yA, ym, yc, yl⟩⟩ (gy.ext hF.ext) (by dsimp only; omega)).mono ?_; rintro _ wl ⟨⟨un, ⟨uA, um, uc, ul⟩⟩, rfl, hSu, hGu, hE⟩; replace hF := Fr.addGI (hF.exts hE) hGu; clear hE hGu; refine Back.mk ?_)) | (refine TL.isBin ?_; refine TL.cmpG rfl rfl rfl rfl (fun hc => ?_) (fun hc => ?_) <;> (try (first | (exfalso; omega) | exact absurd rfl hc))) | (apply TL.ev; (case hd => rfl); (case h => (first | exact ev_simple rfl | (apply Ev.isBin; first | exact ev_arN rfl rfl rfl (by omega)) | exact ev_len rfl))) | (refine TL.storeAtFr hF (f := spc) ⟨kd, yi, yj, ⟨un, ⟨uA, um, uc, ul⟩⟩⟩ rfl rfl rfl rfl (fun _ => rfl) (by rw [hzl]; exact hin) (spc_noV zl) (by repeat (first | apply SetV.head | apply SetV.tail)) ?_; clear hF; intro ws hF)) | (refine TF.is ?_; first | refine TF.nil ?_ | refine TF.e rfl ?_ | (refine TF.pick rfl ?_; first | (apply TFo.ev; (case hd => rfl); (case h => (intro wh hF; first | exact ev_simple rfl | (apply Ev.isLoad; first | exact ev_loadMF rfl (hs.s.ext hF.ext) hy rfl | exact ev_loadMS rfl (hs.s.ext hF.ext) hy rfl) | exact ev_buildX rfl rfl | exact ev_indexM rfl rfl hin (hs.s.ext hF.ext).some | exact ev_indexM rfl rfl hin (.inr rfl) | exact ev_fieldAddrE rfl (by assumption)))))) | (refine T.is ?_; first | refine T.seq ?_ | refine T.region ?_ | refine T.block ?_ | refine T.cond_t rfl ?_ | refine T.skip ?_ | (refine T.regionFr hF 5 25 (.s 0 (.s 1 (.s 2 (.s 3 (.s 4 (.s 5 (.s 6 (.s 7 (.s 8 (.s 9 (.s 10 (.s 11 (.s 12 (.s 13 (.s 14 (.s 15 (.s 16 (.s 17 (.s 18 (.s 19 (.s 20 (.s 21 (.e 22 (.s 23 (.s 24 (.e 25 .nil)))))))))))))))))))))))))) mixed (by kernel_rfl) ?_; clear hF; intro wr hF)) | (refine G.is ?_; first | refine G.next ?_ | refine G.blockN ?_ | refine G.only ?_ | refine G.treeEnd rfl ?_ | refine G.tree rfl (by first | exact hF | exact hF.weak (by repeat (first | exact List.Sublist.refl _ | apply List.Sublist.cons)) (by repeat (first | exact allR | apply allT)) | exact hF.weak (by repeat (first | exact List.Sublist.refl _ | apply List.Sublist.cons)) (by repeat (first | exact allN | refine allH (by repeat (first | exact memH | apply memT)) ?_))) ?_) | refine TL.nil ?_)
    have hk : LsP (i + 1) (zl.set i ⟨kd, yi, yj, ⟨un, ⟨uA, um, uc, ul⟩⟩⟩) ws.heap := by
      intro q hq
      by_cases e : q = i
      · subst e
        have e1 : (zl.set q (⟨kd, yi, yj, ⟨un, ⟨uA, um, uc, ul⟩⟩⟩ : SP)).getD q default = ⟨kd, yi, yj, ⟨un, ⟨uA, um, uc, ul⟩⟩⟩ := by simp [List.getD, show q < zl.length by omega]
        rw [e1]; exact Fr.gi hF (by repeat (first | exact memH | apply memT))
      · have e1 : (zl.set i (⟨kd, yi, yj, ⟨un, ⟨uA, um, uc, ul⟩⟩⟩ : SP)).getD q default = zl.getD q default := by simp [List.getD, List.getElem?_set_ne (fun h => e h.symm)]
        rw [e1]; exact Fr.lp hF (i := i) (l := zl) (by repeat (first | exact memH | apply memT)) q (by omega)
    refine G.again (i + 1, zl.set i ⟨kd, yi, yj, ⟨un, ⟨uA, um, uc, ul⟩⟩⟩) (by repeat (first | exact Sub.nil _ | refine Sub.cons rfl ?_ | refine Sub.cons' rfl (int_congr (by omega)) ?_)) ⟨by dsimp only; omega, by rw [List.length_set]; exact hzl, fun q hq => ?_, Fr.addLP (hF.weak (List.Sublist.refl _) allN) hk⟩ (by dsimp only; omega)
    dsimp only at hq ⊢
    by_cases e : q = i
    · subst e
      have e1 : (zl.set q (⟨kd, yi, yj, ⟨un, ⟨uA, um, uc, ul⟩⟩⟩ : SP)).getD q default = ⟨kd, yi, yj, ⟨un, ⟨uA, um, uc, ul⟩⟩⟩ := by simp [List.getD, show q < zl.length by omega]
      rw [e1, ey]
      have e2 := same_ival hSu
      have e3 := hSu.2.2
      simp only [cor, e2]
      dsimp only at e3
      rw [e3]
    · have e1 : (zl.set i (⟨kd, yi, yj, ⟨un, ⟨uA, um, uc, ul⟩⟩⟩ : SP)).getD q default = zl.getD q default := by simp [List.getD, List.getElem?_set_ne (fun h => e h.symm)]
      rw [e1]; exact hsm q (by omega)
  · obtain rfl : i = n := by omega
    repeat' (first | (refine TL.isOp ?_; first | (refine TL.isBin ?_; refine TL.cmpG rfl rfl rfl rfl (fun hc => ?_) (fun hc => ?_) <;> (try (first | (exfalso; omega) | exact absurd rfl hc))) | (apply TL.ev; (case hd => rfl); (case h => (first | exact ev_simple rfl | exact ev_len rfl)))) | (refine T.is ?_; first | refine T.seq ?_ | refine T.region ?_ | refine T.cond_f rfl ?_ | refine T.exit ?_ | refine T.ret ?_) | (refine G.is ?_; first | refine G.next ?_ | refine G.blockE ?_ | refine G.thenE ?_) | refine TL.nil ?_)
    have hb := (hF.lo (b := b7) (by repeat (first | exact InV.head | apply InV.tail))).resolve_right id
    refine G.ret1 rfl rfl ⟨_, _, zl, rfl, ⟨vr_sm (zs := []) (by omega) (fun _ _ => rfl) (by rw [List.append_nil]; exact hF.var .head) hzl (Nat.le_refl _) (hF.var .head).lt, fun s hs' => ?_⟩, ?_, hF.ext, .inr ⟨b7, rfl, hb⟩⟩
    · obtain ⟨q, hq⟩ := List.getElem?_of_mem hs'
      have e : zl.getD q default = s := by simp [List.getD, hq]
      rw [← e]
      exact Fr.lp hF (i := i) (l := zl) (by repeat (first | exact memH | apply memT)) q (by have := (List.getElem?_eq_some_iff.1 hq).1; omega)
    apply List.ext_getElem?
    intro q
    rw [List.getElem?_map, List.getElem?_map]
    rcases Nat.lt_or_ge q i with hq | hq
    · have h1 := hsm q hq
      have e1 : zl[q]? = some (zl.getD q default) := by simp [List.getD, show q < zl.length by omega]
      have e2 : L[q]? = some (L.getD q default) := by simp [List.getD, show q < L.length by omega]
      rw [e1, e2, Option.map_some, Option.map_some, h1]
    · rw [List.getElem?_eq_none (by omega), List.getElem?_eq_none (by omega)]
end Go.Proofs.YtdhmhjbmkimplaaGreat

namespace Go.Proofs.YtdhmhjbmkimplaaGreat
open Go Go.Eng Go.Proofs Go.NatM Go.RowKit

theorem cor_fits {s t : SP} (h : cor s = cor t) (n : Nat) : fits n s ↔ fits n t := by
  simp only [cor, Prod.mk.injEq] at h
  obtain ⟨h1, h2, h3, h4, h5⟩ := h
  unfold fits
  rw [h1, h2, h3]
theorem cor_stepF {s t : SP} (h : cor s = cor t) (F : Nat → Nat → Int) : stepF s F = stepF t F := by
  simp only [cor, Prod.mk.injEq] at h
  obtain ⟨h1, h2, h3, h4, h5⟩ := h
  unfold stepF
  rw [h1, h2, h3, h4]
theorem cor_stepsF : ∀ {L M : List SP} (_ : L.map cor = M.map cor) (F : Nat → Nat → Int), stepsF L F = stepsF M F
  | [], [], _, F => rfl
  | [], _ :: _, h, F => by simp at h
  | _ :: _, [], h, F => by simp at h
  | s :: L, t :: M, h, F => by
    simp only [List.map_cons, List.cons.injEq] at h
    have := cor_stepsF (L := L) (M := M) h.2 (stepF s F)
    rw [cor_stepF h.1] at this
    simp only [stepsF, List.foldl_cons] at this ⊢
    rw [cor_stepF h.1]; exact this
theorem cor_wsum : ∀ {L M : List SP} (_ : L.map cor = M.map cor), wsum L = wsum M
  | [], [], _ => rfl
  | [], _ :: _, h => by simp at h
  | _ :: _, [], h => by simp at h
  | s :: L, t :: M, h => by
    simp only [List.map_cons, List.cons.injEq] at h
    have h2 := cor_wsum h.2
    have h1 := h.1
    simp only [cor, Prod.mk.injEq] at h1
    simp only [wsum, List.map_cons, List.sum_cons] at h2 ⊢
    rw [h1.2.2.2.2, h2]
theorem cor_get {L M : List SP} (h : L.map cor = M.map cor) {i : Nat} {s : SP} (hs : L[i]? = some s) : ∃ t, M[i]? = some t ∧ cor t = cor s := by
  have := congrArg (fun l => l[i]?) h
  simp only [List.getElem?_map, hs, Option.map_some] at this
  cases hm : M[i]? with
  | none => rw [hm] at this; cases this
  | some t => rw [hm] at this; exact ⟨t, rfl, (Option.some.inj this).symm⟩
theorem cor_all {L M : List SP} (h : L.map cor = M.map cor) (n : Nat) (hL : ∀ s ∈ L, fits n s) : ∀ s ∈ M, fits n s := fun s hs => by
  obtain ⟨i, hi⟩ := List.getElem?_of_mem hs
  obtain ⟨t, ht, hc⟩ := cor_get h.symm hi
  exact (cor_fits hc n).1 (hL t (List.mem_of_getElem? ht))
/-- Check's answer, told exactly -/
def CkS (n : Int) (L : List SP) (z err : Int) : Prop :=
  (¬ isSideI n ∧ z = -1 ∧ err = 3) ∨ (FitAll n L ∧ z = -1 ∧ err = 0) ∨ (isSideI n ∧ ∃ (i : Nat) (s : SP), L[i]? = some s ∧ ¬ fits n.toNat s ∧ (∀ j t, j < i → L[j]? = some t → fits n.toNat t) ∧ z = i ∧ err = 3)
theorem CkS.uniq {n : Int} {L : List SP} {z err z' err' : Int} (h : CkS n L z err) (h' : CkS n L z' err') : z = z' ∧ err = err' := by
  rcases h with ⟨a, rfl, rfl⟩ | ⟨⟨a, b⟩, rfl, rfl⟩ | ⟨a, i, s, hs, hn, hlt, rfl, rfl⟩ <;> rcases h' with ⟨a', rfl, rfl⟩ | ⟨⟨a', b'⟩, rfl, rfl⟩ | ⟨a', i', s', hs', hn', hlt', rfl, rfl⟩
  · exact ⟨rfl, rfl⟩
  · exact absurd a' a
  · exact absurd a' a
  · exact absurd a a'
  · exact ⟨rfl, rfl⟩
  · exact absurd (b _ (List.mem_of_getElem? hs')) hn'
  · exact absurd a a'
  · exact absurd (b' _ (List.mem_of_getElem? hs)) hn
  · refine ⟨?_, rfl⟩
    rcases Nat.lt_trichotomy i i' with h | h | h
    · exact absurd (hlt' i s h hs) hn
    · rw [h]
    · exact absurd (hlt i' s' h hs') hn'
theorem CkS.cor {n : Int} {L M : List SP} {z err : Int} (hc : L.map cor = M.map cor) (h : CkS n L z err) : CkS n M z err := by
  rcases h with h | ⟨⟨a, b⟩, h⟩ | ⟨a, i, s, hs, hn, hlt, h⟩
  · exact .inl h
  · exact .inr (.inl ⟨⟨a, cor_all hc _ b⟩, h⟩)
  · obtain ⟨t, ht, hct⟩ := cor_get hc hs
    refine .inr (.inr ⟨a, i, t, ht, fun h' => hn ((cor_fits hct _).1 h'), fun j u hj hu => ?_, h⟩)
    obtain ⟨v, hv, hcv⟩ := cor_get hc.symm hu
    exact (cor_fits hcv _).1 (hlt j v hj hv)
theorem CkS.err {n : Int} {L : List SP} {z err : Int} (h : CkS n L z err) : (err = 0 ∧ FitAll n L) ∨ (err = 3 ∧ ¬ FitAll n L) := by
  rcases h with ⟨a, _, rfl⟩ | ⟨a, _, rfl⟩ | ⟨a, i, s, hs, hn, _, _, rfl⟩
  · exact .inr ⟨rfl, fun h => a h.1⟩
  · exact .inl ⟨rfl, a⟩
  · exact .inr ⟨rfl, fun h => hn (h.2 s (List.mem_of_getElem? hs))⟩
theorem CkS.err0 {n : Int} {L : List SP} {z err : Int} (h : CkS n L z err) (hf : FitAll n L) : err = 0 := h.err.elim (fun h => h.1) fun h => absurd hf h.2
theorem CkS.err3 {n : Int} {L : List SP} {z err : Int} (h : CkS n L z err) (hf : ¬ FitAll n L) : err = 3 := h.err.elim (fun h => absurd h.2 hf) fun h => h.1
def RetCkS (w : World) (n : Int) (L : List SP) (e : Ending) (w' : World) : Prop := ∃ z err : Int, e = .returned (.tuple #[.int .i64 z, .int .i64 err]) ∧ CkS n L z err ∧ Ext w w'
set_option maxRecDepth 100000 in
set_option maxHeartbeats 1000000 in
theorem scheckS_ok (w : World) (n : Int) (A : Option Addr) (m k K : Nat) (L : List SP) (hs : SS w.heap A m k L) (hK : wsum L ≤ 4398046511104) (hm : m ≤ 1048576) : Cl Tryz.prog 8 #[.int .i64 n, .slice A m k] w (RetCkS w n L) := by
  have hlen := hs.s.len
  by_cases hsd : isSideI n
  · obtain ⟨q, rfl⟩ := Int.eq_ofNat_of_zero_le hsd.1
    have hq64 : q ≤ 64 := by have := hsd.2; omega
    refine enter Tryz.func8 rfl rfl rfl ?_
    have hF := Fr.refl w
    repeat' (first | (refine TL.isOp ?_; first | (refine TL.isG ?_; first | refine TL.grun rfl rfl rfl ?_) | (refine TL.isBin ?_; refine TL.cmpG rfl rfl rfl rfl (fun hc => ?_) (fun hc => ?_) <;> (try (first | (exfalso; omega) | exact absurd rfl hc))) | (apply TL.ev; (case hd => rfl); (case h => (first | exact ev_simple rfl | exact ev_len rfl)))) | (refine T.is ?_; first | refine T.seq ?_ | refine T.region ?_ | refine T.block ?_ | refine T.cond_f rfl ?_ | refine T.skip ?_) | (refine G.is ?_; first | refine G.next ?_) | refine TL.nil ?_)
    refine T.loop (α := Nat) (fun i => [(0, .int .i64 (q : Int)), (14, .slice A m k), (15, .int .i64 (m : Int)), (16, .int .i64 (i : Int))]) (fun i w' => i ≤ m ∧ (∀ j s, j < i → L[j]? = some s → fits q s) ∧ Fr w w' [] []) (fun i => m - i) 0 (by repeat (first | exact Sub.nil _ | refine Sub.cons rfl ?_ | refine Sub.cons' rfl (int_congr (by omega)) ?_)) ⟨Nat.zero_le _, fun j s hj => absurd hj (Nat.not_lt_zero _), hF⟩ ?_
    clear hF
    rintro i w2 ⟨hi, hq, hF⟩
    rcases Nat.lt_or_ge i m with hin | hin
    · have hy : L[i]? = some (L.getD i default) := by simp [List.getD, show i < L.length by omega]
      have hmem := List.mem_of_getElem? hy
      generalize L.getD i default = y at *
      have hwy := wsum_mem hmem
      repeat' (first | (refine TL.isOp ?_; first | (refine TL.isCall ?_; refine TL.call rfl rfl ?_; first | (refine (read_ok _ y y.k.m.n (fun h => ⟨(hs.g y hmem).ext hF.ext, Nat.le_refl _⟩) (by omega)).mono ?_; rintro _ w1 ⟨xv, rfl, hLx, hE⟩; replace hF := hF.exts hE; clear hE; refine Back.mk ?_)) | (refine TL.isBin ?_; refine TL.cmpG rfl rfl rfl rfl (fun hc => ?_) (fun hc => ?_) <;> (try (first | (exfalso; omega) | exact absurd rfl hc))) | (apply TL.ev; (case hd => rfl); (case h => (first | exact ev_simple rfl | (apply Ev.isBin; first | exact ev_arN rfl rfl rfl (by omega)) | (apply Ev.isLoad; first | exact ev_loadAFr hF rfl (by refine ⟨?_, ?_⟩; (focus (repeat (first | exact InV.head | apply InV.tail))); rfl) | exact ev_loadM rfl (hs.s.ext hF.ext) hy) | exact ev_indexM rfl rfl hin (hs.s.ext hF.ext).some))) | (refine TL.storeAFr hF rfl rfl rfl rfl (by refine ⟨?_, ?_⟩; (focus (repeat (first | apply SetV.head | apply SetV.tail))); rfl) rfl ?_; clear hF; intro ws hF) | (refine TL.allocFr hF (d := 7) rfl rfl ?_; clear hF; intro w7 b7 hF) | (refine TL.fitsMv (s := y) (n := q) rfl rfl rfl (fun b wf hb hE => ?_); replace hF := hF.exts hE; clear hE; cases b)) | (refine T.is ?_; first | refine T.seq ?_ | refine T.region ?_ | refine T.block ?_ | refine T.cond_t rfl ?_ | refine T.cond_f rfl ?_ | refine T.ret ?_ | refine T.skip ?_) | (refine G.is ?_; first | refine G.next ?_ | refine G.blockN ?_ | refine G.blockR ?_ | refine G.thenR ?_) | refine TL.nil ?_)
      · exact G.ret2 rfl rfl rfl ⟨i, 3, rfl, .inr (.inr ⟨hsd, i, y, hy, fun h => (by have := hb.2 h; cases this), hq, rfl, rfl⟩), hF.ext⟩
      · refine G.again (i + 1) (by repeat (first | exact Sub.nil _ | refine Sub.cons rfl ?_ | refine Sub.cons' rfl (int_congr (by omega)) ?_)) ⟨by omega, fun j s hj hs' => ?_, hF.weak (List.nil_sublist _) allN⟩ (by omega)
        rcases Nat.lt_or_ge j i with h1 | h1
        · exact hq j s h1 hs'
        · obtain rfl : j = i := by omega
          rw [hy] at hs'; cases hs'
          exact hb.1 rfl
    · obtain rfl : i = m := by omega
      repeat' (first | (refine TL.isOp ?_; first | (refine TL.isBin ?_; refine TL.cmpG rfl rfl rfl rfl (fun hc => ?_) (fun hc => ?_) <;> (try (first | (exfalso; omega) | exact absurd rfl hc))) | (apply TL.ev; (case hd => rfl); (case h => (first | exact ev_simple rfl)))) | (refine T.is ?_; first | refine T.seq ?_ | refine T.region ?_ | refine T.cond_f rfl ?_ | refine T.exit ?_ | refine T.ret ?_) | (refine G.is ?_; first | refine G.next ?_ | refine G.blockE ?_ | refine G.thenE ?_) | refine TL.nil ?_)
      refine G.ret2 rfl rfl rfl ⟨-1, 0, rfl, .inr (.inl ⟨⟨hsd, fun s hs' => ?_⟩, rfl, rfl⟩), hF.ext⟩
      obtain ⟨j, hj⟩ := List.getElem?_of_mem hs'
      exact hq j s (by have := (List.getElem?_eq_some_iff.1 hj).1; omega) hj
  · have hsd' := hsd
    unfold isSideI at hsd'
    refine enter Tryz.func8 rfl rfl rfl ?_
    have hF := Fr.refl w
    repeat' (first | (refine TL.isOp ?_; first | (refine TL.isG ?_; first | refine TL.grun rfl rfl rfl ?_ | refine TL.gskip rfl rfl rfl rfl ?_) | (refine TL.isBin ?_; refine TL.cmpG rfl rfl rfl rfl (fun hc => ?_) (fun hc => ?_) <;> (try (first | (exfalso; omega) | exact absurd rfl hc))) | (apply TL.ev; (case hd => rfl); (case h => (first | exact ev_simple rfl)))) | (refine T.is ?_; first | refine T.seq ?_ | refine T.region ?_ | refine T.cond_t rfl ?_ | refine T.ret ?_) | (refine G.is ?_; first | refine G.next ?_ | refine G.thenR ?_) | refine TL.nil ?_)
    all_goals first | (exfalso; omega) | exact G.ret2 rfl rfl rfl ⟨-1, 3, rfl, .inl ⟨hsd, rfl, rfl⟩, hF.ext⟩
set_option maxHeartbeats 1000000 in
theorem rfit_ok (w : World) (n : Nat) (s : SP) : Cl Tryz.prog 42 #[.int .i64 (n : Int), .agg (spc s).toArray] w (RetBb w (fits n s)) := by
  obtain ⟨kd, i, j, ⟨kn, ⟨kA, km, kc, kl⟩⟩⟩ := s
  refine enter Tryz.func42 rfl rfl rfl ?_
  have hF := Fr.refl w
  repeat' (first | (refine TL.isOp ?_; first | (refine TL.isG ?_; first | refine TL.grun rfl rfl rfl ?_ | refine TL.gskip rfl rfl rfl rfl ?_ | refine TL.gskipU rfl rfl rfl ?_) | (refine TL.isBin ?_; refine TL.cmpG rfl rfl rfl rfl (fun hc => ?_) (fun hc => ?_) <;> (try (first | (exfalso; omega) | exact absurd rfl hc))) | (apply TL.ev; (case hd => rfl); (case h => (first | exact ev_simple rfl | (apply Ev.isLoad; first | exact ev_loadFr hF rfl (by refine ⟨?_, ?_⟩; (focus (repeat (first | exact InV.head | apply InV.tail))); rfl)) | exact ev_fieldAddr rfl))) | (refine TL.boxAFr hF (d := 3) (cs := [.int .i64 kd, .int .i64 i, .int .i64 j, .bool kn, .slice kA km kc]) rfl rfl ?_; clear hF; intro w3 b3 hF)) | (refine T.is ?_; first | refine T.seq ?_ | refine T.region ?_ | refine T.cond_t rfl ?_ | refine T.cond_f rfl ?_ | refine T.ret ?_ | refine T.skip ?_) | (refine G.is ?_; first | refine G.next ?_ | refine G.thenR ?_) | refine TL.nil ?_)
  all_goals first
    | exact G.ret1 rfl rfl ⟨true, ⟨fun _ => by unfold fits; dsimp only; omega, fun _ => rfl⟩, rfl, hF.ext⟩
    | exact G.ret1 rfl rfl ⟨false, ⟨fun h => (by cases h), fun h => (by unfold fits at h; dsimp only at h; omega)⟩, rfl, hF.ext⟩
set_option maxRecDepth 100000 in
set_option maxHeartbeats 1000000 in
theorem rcheckS_ok (w : World) (n : Int) (A : Option Addr) (m k : Nat) (L : List SP) (hs : SS w.heap A m k L) (hm : m ≤ 1048576) : Cl Tryz.prog 10 #[.int .i64 n, .slice A m k] w (RetCkS w n L) := by
  have hlen := hs.s.len
  by_cases hsd : isSideI n
  · obtain ⟨q, rfl⟩ := Int.eq_ofNat_of_zero_le hsd.1
    have hq64 : q ≤ 64 := by have := hsd.2; omega
    refine enter Tryz.func10 rfl rfl rfl ?_
    have hF := Fr.refl w
    repeat' (first | (refine TL.isOp ?_; first | (refine TL.isG ?_; first | refine TL.grun rfl rfl rfl ?_) | (refine TL.isBin ?_; refine TL.cmpG rfl rfl rfl rfl (fun hc => ?_) (fun hc => ?_) <;> (try (first | (exfalso; omega) | exact absurd rfl hc))) | (apply TL.ev; (case hd => rfl); (case h => (first | exact ev_simple rfl)))) | (refine T.is ?_; first | refine T.seq ?_ | refine T.region ?_ | refine T.block ?_ | refine T.cond_f rfl ?_ | refine T.skip ?_) | (refine G.is ?_; first | refine G.next ?_) | refine TL.nil ?_)
    refine T.loop (α := Nat) (fun i => [(0, .int .i64 (q : Int)), (1, .slice A m k), (6, .int .i64 (i : Int))]) (fun i w' => i ≤ m ∧ (∀ j s, j < i → L[j]? = some s → fits q s) ∧ Fr w w' [] []) (fun i => m - i) 0 (by repeat (first | exact Sub.nil _ | refine Sub.cons rfl ?_ | refine Sub.cons' rfl (int_congr (by omega)) ?_)) ⟨Nat.zero_le _, fun j s hj => absurd hj (Nat.not_lt_zero _), hF⟩ ?_
    clear hF
    rintro i w2 ⟨hi, hq, hF⟩
    rcases Nat.lt_or_ge i m with hin | hin
    · have hy : L[i]? = some (L.getD i default) := by simp [List.getD, show i < L.length by omega]
      generalize L.getD i default = y at *
      repeat' (first | (refine TL.isOp ?_; first | (refine TL.isCall ?_; refine TL.call rfl rfl ?_; first | (refine (rfit_ok _ q y).mono ?_; rintro _ w1 ⟨b, hb, rfl, hE⟩; replace hF := hF.exts hE; clear hE; cases b <;> refine Back.mk ?_)) | (refine TL.isBin ?_; refine TL.cmpG rfl rfl rfl rfl (fun hc => ?_) (fun hc => ?_) <;> (try (first | (exfalso; omega) | exact absurd rfl hc))) | (apply TL.ev; (case hd => rfl); (case h => (first | exact ev_simple rfl | (apply Ev.isBin; first | exact ev_arN rfl rfl rfl (by omega)) | (apply Ev.isLoad; first | exact ev_loadM rfl (hs.s.ext hF.ext) hy) | exact ev_len rfl | exact ev_indexM rfl rfl hin (hs.s.ext hF.ext).some)))) | (refine T.is ?_; first | refine T.seq ?_ | refine T.region ?_ | refine T.block ?_ | refine T.cond_t rfl ?_ | refine T.cond_f rfl ?_ | refine T.ret ?_ | refine T.skip ?_) | (refine G.is ?_; first | refine G.next ?_ | refine G.blockN ?_ | refine G.blockR ?_ | refine G.thenR ?_) | refine TL.nil ?_)
      · exact G.ret2 rfl rfl rfl ⟨i, 3, rfl, .inr (.inr ⟨hsd, i, y, hy, fun h => (by have := hb.2 h; cases this), hq, rfl, rfl⟩), hF.ext⟩
      · refine G.again (i + 1) (by repeat (first | exact Sub.nil _ | refine Sub.cons rfl ?_ | refine Sub.cons' rfl (int_congr (by omega)) ?_)) ⟨by omega, fun j s hj hs' => ?_, hF.weak (List.nil_sublist _) allN⟩ (by omega)
        rcases Nat.lt_or_ge j i with h1 | h1
        · exact hq j s h1 hs'
        · obtain rfl : j = i := by omega
          rw [hy] at hs'; cases hs'
          exact hb.1 rfl
    · obtain rfl : i = m := by omega
      repeat' (first | (refine TL.isOp ?_; first | (refine TL.isBin ?_; refine TL.cmpG rfl rfl rfl rfl (fun hc => ?_) (fun hc => ?_) <;> (try (first | (exfalso; omega) | exact absurd rfl hc))) | (apply TL.ev; (case hd => rfl); (case h => (first | exact ev_simple rfl | exact ev_len rfl)))) | (refine T.is ?_; first | refine T.seq ?_ | refine T.region ?_ | refine T.cond_f rfl ?_ | refine T.exit ?_ | refine T.ret ?_) | (refine G.is ?_; first | refine G.next ?_ | refine G.blockE ?_ | refine G.thenE ?_) | refine TL.nil ?_)
      refine G.ret2 rfl rfl rfl ⟨-1, 0, rfl, .inr (.inl ⟨⟨hsd, fun s hs' => ?_⟩, rfl, rfl⟩), hF.ext⟩
      obtain ⟨j, hj⟩ := List.getElem?_of_mem hs'
      exact hq j s (by have := (List.getElem?_eq_some_iff.1 hj).1; omega) hj
  · have hsd' := hsd
    unfold isSideI at hsd'
    refine enter Tryz.func10 rfl rfl rfl ?_
    have hF := Fr.refl w
    repeat' (first | (refine TL.isOp ?_; first | (refine TL.isG ?_; first | refine TL.grun rfl rfl rfl ?_ | refine TL.gskip rfl rfl rfl rfl ?_) | (refine TL.isBin ?_; refine TL.cmpG rfl rfl rfl rfl (fun hc => ?_) (fun hc => ?_) <;> (try (first | (exfalso; omega) | exact absurd rfl hc))) | (apply TL.ev; (case hd => rfl); (case h => (first | exact ev_simple rfl)))) | (refine T.is ?_; first | refine T.seq ?_ | refine T.region ?_ | refine T.cond_t rfl ?_ | refine T.ret ?_) | (refine G.is ?_; first | refine G.next ?_ | refine G.thenR ?_) | refine TL.nil ?_)
    all_goals first | (exfalso; omega) | exact G.ret2 rfl rfl rfl ⟨-1, 3, rfl, .inl ⟨hsd, rfl, rfl⟩, hF.ext⟩
/-- does a step turn the sign? -/
def turnsS (s : SP) : Prop := s.kind = 2 ∨ (s.kind = 1 ∧ s.i ≠ s.j)
instance (s : SP) : Decidable (turnsS s) := by unfold turnsS; infer_instance
def sgnL (L : List SP) : Int := L.foldl (fun d s => if turnsS s then -d else d) 1
theorem sgnL_succ {L : List SP} {i : Nat} {y : SP} (h : L[i]? = some y) : sgnL (L.take (i + 1)) = if turnsS y then - sgnL (L.take i) else sgnL (L.take i) := by
  rw [List.take_add_one, h]; simp [sgnL]
theorem sgnL_one : ∀ (L : List SP), sgnL L = 1 ∨ sgnL L = -1 := by
  intro L
  have key : ∀ (L : List SP) (d : Int), d = 1 ∨ d = -1 → (L.foldl (fun d s => if turnsS s then -d else d) d = 1 ∨ L.foldl (fun d s => if turnsS s then -d else d) d = -1) := by
    intro L
    induction L with
    | nil => exact fun d h => h
    | cons s L ih =>
      intro d h
      simp only [List.foldl_cons]
      refine ih _ ?_
      split <;> omega
  exact key L 1 (.inl rfl)
theorem sgnL_cor : ∀ {L M : List SP}, L.map cor = M.map cor → sgnL L = sgnL M := by
  have key : ∀ (L M : List SP) (d : Int), L.map cor = M.map cor → L.foldl (fun d s => if turnsS s then -d else d) d = M.foldl (fun d s => if turnsS s then -d else d) d := by
    intro L
    induction L with
    | nil => intro M d h; cases M with
      | nil => rfl
      | cons => simp at h
    | cons s L ih => intro M d h; cases M with
      | nil => simp at h
      | cons t M =>
        simp only [List.map_cons, List.cons.injEq] at h
        have h1 := h.1
        simp only [cor, Prod.mk.injEq] at h1
        have e : turnsS s ↔ turnsS t := by unfold turnsS; rw [h1.1, h1.2.1, h1.2.2.1]
        simp only [List.foldl_cons, e]
        exact ih M _ h.2
  exact fun {L M} h => key L M 1 h
/-- Sign's answer -/
def SgS (n : Int) (L : List SP) (v err : Int) : Prop := (FitAll n L ∧ v = sgnL L ∧ err = 0) ∨ (¬ FitAll n L ∧ v = 0 ∧ err = 3)
theorem SgS.uniq {n : Int} {L : List SP} {z err z' err' : Int} (h : SgS n L z err) (h' : SgS n L z' err') : z = z' ∧ err = err' := by
  rcases h with ⟨a, rfl, rfl⟩ | ⟨a, rfl, rfl⟩ <;> rcases h' with ⟨a', rfl, rfl⟩ | ⟨a', rfl, rfl⟩
  · exact ⟨rfl, rfl⟩
  · exact absurd a a'
  · exact absurd a' a
  · exact ⟨rfl, rfl⟩
theorem fitAll_cor {n : Int} {L M : List SP} (hc : L.map cor = M.map cor) : FitAll n L ↔ FitAll n M := ⟨fun h => ⟨h.1, cor_all hc _ h.2⟩, fun h => ⟨h.1, cor_all hc.symm _ h.2⟩⟩
theorem SgS.cor {n : Int} {L M : List SP} {z err : Int} (hc : L.map cor = M.map cor) (h : SgS n L z err) : SgS n M z err := by
  rcases h with ⟨a, rfl, rfl⟩ | ⟨a, rfl, rfl⟩
  · exact .inl ⟨(fitAll_cor hc).1 a, sgnL_cor hc, rfl⟩
  · exact .inr ⟨fun h => a ((fitAll_cor hc).2 h), rfl, rfl⟩
def RetSg (w : World) (n : Int) (L : List SP) (e : Ending) (w' : World) : Prop := ∃ z err : Int, e = .returned (.tuple #[.int .i64 z, .int .i64 err]) ∧ SgS n L z err ∧ Ext w w'
set_option maxRecDepth 100000 in
set_option maxHeartbeats 1000000 in
theorem ssign_ok (w : World) (n : Int) (A : Option Addr) (m k : Nat) (L : List SP) (hs : SS w.heap A m k L) (hK : wsum L ≤ 4398046511104) (hm : m ≤ 1048576) : Cl Tryz.prog 21 #[.int .i64 n, .slice A m k] w (RetSg w n L) := by
  have hlen := hs.s.len
  have hck := fun w1 (hE : Ext w w1) => scheckS_ok w1 n A m k 0 L (hs.ext hE) hK hm
  by_cases hfit : FitAll n L
  · refine enter Tryz.func21 rfl rfl rfl ?_
    have hF := Fr.refl w
    repeat' (first | (refine TL.isOp ?_; first | (refine TL.isCall ?_; refine TL.call rfl rfl ?_; first | (refine (hck _ hF.ext).mono ?_; rintro _ wy ⟨z, err, rfl, hCk, hE⟩; obtain rfl := hCk.err0 hfit; replace hF := hF.exts hE; clear hE; refine Back.mk ?_)) | (refine TL.isBin ?_; refine TL.cmpG rfl rfl rfl rfl (fun hc => ?_) (fun hc => ?_) <;> (try (first | (exfalso; omega) | exact absurd rfl hc))) | (apply TL.ev; (case hd => rfl); (case h => (first | exact ev_simple rfl | exact ev_len rfl)))) | (refine T.is ?_; first | refine T.seq ?_ | refine T.region ?_ | refine T.block ?_ | refine T.cond_f rfl ?_ | refine T.skip ?_) | (refine G.is ?_; first | refine G.next ?_) | refine TL.nil ?_)
    refine T.loop (α := Nat) (fun i => [(8, .int .i64 (sgnL (L.take i))), (20, .slice A m k), (21, .int .i64 (m : Int)), (22, .int .i64 (i : Int))]) (fun i w' => i ≤ m ∧ Fr w w' [] []) (fun i => m - i) 0 (by repeat (first | exact Sub.nil _ | refine Sub.cons rfl ?_ | refine Sub.cons' rfl (int_congr (by omega)) ?_)) ⟨Nat.zero_le _, hF⟩ ?_
    clear hF
    rintro i w2 ⟨hi, hF⟩
    rcases Nat.lt_or_ge i m with hin | hin
    · have hy : L[i]? = some (L.getD i default) := by simp [List.getD, show i < L.length by omega]
      have hsg := sgnL_succ hy
      have h1 := sgnL_one (L.take i)
      generalize L.getD i default = y at *
      obtain ⟨v, hv⟩ : ∃ v, sgnL (L.take i) = v := ⟨_, rfl⟩
      rw [hv] at h1 hsg ⊢
      obtain ⟨kd, yi, yj, ⟨yn, ⟨yA, ym, yc, yl⟩⟩⟩ := y
      repeat' (first | (refine TL.isOp ?_; first | (refine TL.isG ?_; first | refine TL.grun rfl rfl rfl ?_ | refine TL.gskip rfl rfl rfl rfl ?_ | refine TL.gskipU rfl rfl rfl ?_) | (refine TL.isBin ?_; refine TL.cmpG rfl rfl rfl rfl (fun hc => ?_) (fun hc => ?_) <;> (try (first | (exfalso; omega) | exact absurd rfl hc))) | (apply TL.ev; (case hd => rfl); (case h => (first | exact ev_simple rfl | (apply Ev.isBin; first | exact ev_arN rfl rfl rfl (by omega)) | (apply Ev.isLoad; first | exact ev_loadFr hF rfl (by refine ⟨?_, ?_⟩; (focus (repeat (first | exact InV.head | apply InV.tail))); rfl) | exact ev_loadMc [.int .i64 kd, .int .i64 yi, .int .i64 yj, .bool yn, .slice yA ym yc] rfl (hs.s.ext hF.ext) hy rfl) | exact ev_fieldAddr rfl | exact ev_neg rfl (by omega) | exact ev_indexM rfl rfl hin (hs.s.ext hF.ext).some))) | (refine TL.storeAFr hF rfl rfl rfl rfl (by refine ⟨?_, ?_⟩; (focus (repeat (first | apply SetV.head | apply SetV.tail))); rfl) rfl ?_; clear hF; intro ws hF) | (refine TL.allocFr hF (d := 10) rfl rfl ?_; clear hF; intro w10 b10 hF)) | (refine T.is ?_; first | refine T.seq ?_ | refine T.region ?_ | refine T.block ?_ | refine T.cond_t rfl ?_ | refine T.cond_f rfl ?_ | refine T.skip ?_) | (refine G.is ?_; first | refine G.next ?_ | refine G.blockN ?_) | refine TL.nil ?_)
      all_goals first
        | exact G.again (i + 1) (by rw [hsg, if_pos (by unfold turnsS; dsimp only; omega)]; exact (by repeat (first | exact Sub.nil _ | refine Sub.cons rfl ?_ | refine Sub.cons' rfl (int_congr (by omega)) ?_))) ⟨by omega, hF.weak (List.nil_sublist _) allN⟩ (by omega)
        | exact G.again (i + 1) (by rw [hsg, if_neg (by unfold turnsS; dsimp only; omega)]; exact (by repeat (first | exact Sub.nil _ | refine Sub.cons rfl ?_ | refine Sub.cons' rfl (int_congr (by omega)) ?_))) ⟨by omega, hF.weak (List.nil_sublist _) allN⟩ (by omega)
    · obtain rfl : i = m := by omega
      have e1 : L.take i = L := List.take_of_length_le (by omega)
      rw [e1]
      repeat' (first | (refine TL.isOp ?_; first | (refine TL.isBin ?_; refine TL.cmpG rfl rfl rfl rfl (fun hc => ?_) (fun hc => ?_) <;> (try (first | (exfalso; omega) | exact absurd rfl hc))) | (apply TL.ev; (case hd => rfl); (case h => (first | exact ev_simple rfl)))) | (refine T.is ?_; first | refine T.seq ?_ | refine T.region ?_ | refine T.cond_f rfl ?_ | refine T.exit ?_ | refine T.ret ?_) | (refine G.is ?_; first | refine G.next ?_ | refine G.blockE ?_ | refine G.thenE ?_) | refine TL.nil ?_)
      exact G.ret2 rfl rfl rfl ⟨_, 0, rfl, .inl ⟨hfit, rfl, rfl⟩, hF.ext⟩
  · refine enter Tryz.func21 rfl rfl rfl ?_
    have hF := Fr.refl w
    repeat' (first | (refine TL.isOp ?_; first | (refine TL.isCall ?_; refine TL.call rfl rfl ?_; first | (refine (hck _ hF.ext).mono ?_; rintro _ wy ⟨z, err, rfl, hCk, hE⟩; obtain rfl := hCk.err3 hfit; replace hF := hF.exts hE; clear hE; refine Back.mk ?_)) | (refine TL.isBin ?_; refine TL.cmpG rfl rfl rfl rfl (fun hc => ?_) (fun hc => ?_) <;> (try (first | (exfalso; omega) | exact absurd rfl hc))) | (apply TL.ev; (case hd => rfl); (case h => (first | exact ev_simple rfl)))) | (refine T.is ?_; first | refine T.seq ?_ | refine T.region ?_ | refine T.cond_t rfl ?_ | refine T.ret ?_) | (refine G.is ?_; first | refine G.next ?_ | refine G.thenR ?_) | refine TL.nil ?_)
    exact G.ret2 rfl rfl rfl ⟨0, 3, rfl, .inr ⟨hfit, rfl, rfl⟩, hF.ext⟩
set_option maxRecDepth 100000 in
set_option maxHeartbeats 1000000 in
theorem rsign_ok (w : World) (n : Int) (A : Option Addr) (m k : Nat) (L : List SP) (hs : SS w.heap A m k L) (hm : m ≤ 1048576) : Cl Tryz.prog 22 #[.int .i64 n, .slice A m k] w (RetSg w n L) := by
  have hlen := hs.s.len
  have hck := fun w1 (hE : Ext w w1) => rcheckS_ok w1 n A m k L (hs.ext hE) hm
  by_cases hfit : FitAll n L
  · refine enter Tryz.func22 rfl rfl rfl ?_
    have hF := Fr.refl w
    repeat' (first | (refine TL.isOp ?_; first | (refine TL.isCall ?_; refine TL.call rfl rfl ?_; first | (refine (hck _ hF.ext).mono ?_; rintro _ wy ⟨z, err, rfl, hCk, hE⟩; obtain rfl := hCk.err0 hfit; replace hF := hF.exts hE; clear hE; refine Back.mk ?_)) | (refine TL.isBin ?_; refine TL.cmpG rfl rfl rfl rfl (fun hc => ?_) (fun hc => ?_) <;> (try (first | (exfalso; omega) | exact absurd rfl hc))) | (apply TL.ev; (case hd => rfl); (case h => (first | exact ev_simple rfl)))) | (refine T.is ?_; first | refine T.seq ?_ | refine T.region ?_ | refine T.block ?_ | refine T.cond_f rfl ?_ | refine T.skip ?_) | (refine G.is ?_; first | refine G.next ?_) | refine TL.nil ?_)
    refine T.loop (α := Nat) (fun i => [(1, .slice A m k), (8, .int .i64 (sgnL (L.take i))), (9, .int .i64 (i : Int))]) (fun i w' => i ≤ m ∧ Fr w w' [] []) (fun i => m - i) 0 (by repeat (first | exact Sub.nil _ | refine Sub.cons rfl ?_ | refine Sub.cons' rfl (int_congr (by omega)) ?_)) ⟨Nat.zero_le _, hF⟩ ?_
    clear hF
    rintro i w2 ⟨hi, hF⟩
    rcases Nat.lt_or_ge i m with hin | hin
    · have hy : L[i]? = some (L.getD i default) := by simp [List.getD, show i < L.length by omega]
      have hsg := sgnL_succ hy
      have h1 := sgnL_one (L.take i)
      have hA : A.isSome = true := hs.s.some.resolve_left (by omega)
      generalize L.getD i default = y at *
      obtain ⟨v, hv⟩ : ∃ v, sgnL (L.take i) = v := ⟨_, rfl⟩
      rw [hv] at h1 hsg ⊢
      obtain ⟨kd, yi, yj, ⟨yn, ⟨yA, ym, yc, yl⟩⟩⟩ := y
      repeat' (first | (refine TL.isOp ?_; first | (refine TL.isG ?_; first | refine TL.grun rfl rfl rfl ?_ | refine TL.gskip rfl rfl rfl rfl ?_ | refine TL.gskipU rfl rfl rfl ?_) | (refine TL.isBin ?_; refine TL.cmpG rfl rfl rfl rfl (fun hc => ?_) (fun hc => ?_) <;> (try (first | (exfalso; omega) | exact absurd rfl hc))) | (apply TL.ev; (case hd => rfl); (case h => (first | exact ev_simple rfl | (apply Ev.isBin; first | exact ev_arN rfl rfl rfl (by omega)) | (apply Ev.isLoad; first | exact ev_loadMF rfl (hs.s.ext hF.ext) hy rfl) | exact ev_len rfl | exact ev_neg rfl (by omega) | exact ev_indexM rfl rfl hin (hs.s.ext hF.ext).some | exact ev_fieldAddrE rfl (by assumption))))) | (refine T.is ?_; first | refine T.seq ?_ | refine T.region ?_ | refine T.block ?_ | refine T.cond_t rfl ?_ | refine T.cond_f rfl ?_ | refine T.skip ?_ | refine T.regionQ mixed (by kernel_rfl) ?_) | (refine G.is ?_; first | refine G.next ?_ | refine G.blockN ?_) | refine TL.nil ?_ | (refine TL.nilFr hF ?_; clear hF; intro wq hF))
      all_goals (try dsimp only at *)
      all_goals first
        | exact G.again (i + 1) (by rw [hsg, if_pos (by unfold turnsS; (try dsimp only at hc); (try dsimp only); omega)]; exact (by repeat (first | exact Sub.nil _ | refine Sub.cons rfl ?_ | refine Sub.cons' rfl (int_congr (by omega)) ?_))) ⟨by omega, hF.weak (List.nil_sublist _) allN⟩ (by omega)
        | exact G.again (i + 1) (by rw [hsg, if_neg (by unfold turnsS; (try dsimp only at hc); (try dsimp only); omega)]; exact (by repeat (first | exact Sub.nil _ | refine Sub.cons rfl ?_ | refine Sub.cons' rfl (int_congr (by omega)) ?_))) ⟨by omega, hF.weak (List.nil_sublist _) allN⟩ (by omega)
    · obtain rfl : i = m := by omega
      have e1 : L.take i = L := List.take_of_length_le (by omega)
      rw [e1]
      repeat' (first | (refine TL.isOp ?_; first | (refine TL.isBin ?_; refine TL.cmpG rfl rfl rfl rfl (fun hc => ?_) (fun hc => ?_) <;> (try (first | (exfalso; omega) | exact absurd rfl hc))) | (apply TL.ev; (case hd => rfl); (case h => (first | exact ev_simple rfl | exact ev_len rfl)))) | (refine T.is ?_; first | refine T.seq ?_ | refine T.region ?_ | refine T.cond_f rfl ?_ | refine T.exit ?_ | refine T.ret ?_) | (refine G.is ?_; first | refine G.next ?_ | refine G.blockE ?_ | refine G.thenE ?_) | refine TL.nil ?_)
      exact G.ret2 rfl rfl rfl ⟨_, 0, rfl, .inl ⟨hfit, rfl, rfl⟩, hF.ext⟩
  · refine enter Tryz.func22 rfl rfl rfl ?_
    have hF := Fr.refl w
    repeat' (first | (refine TL.isOp ?_; first | (refine TL.isCall ?_; refine TL.call rfl rfl ?_; first | (refine (hck _ hF.ext).mono ?_; rintro _ wy ⟨z, err, rfl, hCk, hE⟩; obtain rfl := hCk.err3 hfit; replace hF := hF.exts hE; clear hE; refine Back.mk ?_)) | (refine TL.isBin ?_; refine TL.cmpG rfl rfl rfl rfl (fun hc => ?_) (fun hc => ?_) <;> (try (first | (exfalso; omega) | exact absurd rfl hc))) | (apply TL.ev; (case hd => rfl); (case h => (first | exact ev_simple rfl)))) | (refine T.is ?_; first | refine T.seq ?_ | refine T.region ?_ | refine T.cond_t rfl ?_ | refine T.ret ?_) | (refine G.is ?_; first | refine G.next ?_ | refine G.thenR ?_) | refine TL.nil ?_)
    exact G.ret2 rfl rfl rfl ⟨0, 3, rfl, .inr ⟨hfit, rfl, rfl⟩, hF.ext⟩
end Go.Proofs.YtdhmhjbmkimplaaGreat
