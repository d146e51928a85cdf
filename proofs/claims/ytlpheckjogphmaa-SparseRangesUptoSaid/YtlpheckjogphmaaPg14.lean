/- Frames carried over rounds that write over words of a block of their own. Opening matrices handed in, with the range of their numbers. An argument as the engine has it: []Act (changes of a grid). Layer 10: the law SparseRanges: matrices without a grid. Layer 10: the law SparseRanges. -/
import Derived.Test.YtlpheckjogphmaaPg13
import Derived.Test.YtlpheckjogphmaaPg8
set_option linter.unusedVariables false
set_option linter.unusedSimpArgs false
set_option linter.unusedSectionVars false
namespace Go.Eng
open Go Go.Proofs Go.NatM Go.RowKit Go.Proofs.Ytlpheckjogphmaa
section
variable {S T : Nat → Prop} {w0 w w' W Wb : World} {L L' : List VB} {D D' : List DP} {m : Nat}
/-- from W on: the blocks of L may be written, and those of T -/
theorem Fr.openT (h : Fr w0 W L D) (T : Nat → Prop) (hT : ∀ k, T k → w0.heap.size ≤ k ∧ ∃ o : Obj, W.heap[k]? = some o ∧ keepsObj o = true) :
    OpnK w0 W (fun k => (∃ v ∈ L, v.b = k) ∨ T k) ∧ Fr W W L D (fun k => (∃ v ∈ L, v.b = k) ∨ T k) :=
  ⟨⟨h.ext, fun k hS => by
      rcases hS with ⟨v, hv, e⟩ | e
      · rcases (h.vars v hv).1 with h1 | h1
        · exact e ▸ h1
        · exact h1.elim
      · exact (hT k e).1, fun k hS => by
      rcases hS with ⟨v, hv, e⟩ | e
      · exact ⟨_, e ▸ (h.vars v hv).2, rfl⟩
      · exact (hT k e).2⟩,
    ⟨Exs.refl _ _, fun v hv => ⟨.inr (.inl ⟨v, hv, rfl⟩), (h.vars v hv).2⟩, h.dist, h.data, h.apart⟩⟩
/-- a block of words has been written over: the variables stand, and nothing else is told -/
theorem Fr.restart {lo : Nat} {t : TypeId} {A : Option Addr} {n c : Nat} {l : List Nat} (h : Fr w0 w L D S) (hm : dpOw lo t A n c l ∈ D) (hX : Exs (fun k => A = some ⟨k, 0, none⟩) w w') : Fr w' w' L [] (fun k => ∃ v ∈ L, v.b = k) :=
  ⟨Exs.refl _ _, fun v hv => ⟨.inr ⟨v, hv, rfl⟩, by
    have h1 := (h.vars v hv).2
    have h2 := h1.lt
    unfold Vr at h1 ⊢
    exact (hX.block _ h2 fun e => h.apart v hv _ hm (by unfold dpOw; exact e)).trans h1⟩, h.dist, fun _ h => (by cases h), fun _ _ _ h => (by cases h)⟩
/-- what stands of Wb: all but variables and a map -/
structure Chg (Wb w' : World) (V : Nat → Prop) (m : Nat) : Prop where
  size : Wb.heap.size ≤ w'.heap.size
  same : ∀ (k : Nat) (o : Obj), Wb.heap[k]? = some o → keepsObj o = true → ¬ V k → k ≠ m → w'.heap[k]? = some o
theorem Fr.deC (hb : Fr w0 Wb L D S) (hn : ∀ v ∈ L, v.cs.all noU64 = true) (hc : Chg Wb w' (fun k => ∃ v ∈ L, v.b = k) m) {o : Obj} (hm : Wb.heap[m]? = some o) (ho : o.isCells = false) {d : DP} (hd : d ∈ D) (hf : ¬ d.fp m) : d.p w'.heap := by
  refine d.st _ _ ⟨hc.size, fun k cs t x hk hw => ?_, fun k o' hk ho' hfk => ?_⟩ (hb.data d hd)
  · rw [hk]
    refine hc.same k _ hk rfl (fun ⟨v, hv, e⟩ => ?_) (fun e => ?_)
    · subst e
      have h1 := (hb.vars v hv).2
      unfold Vr at h1
      rw [h1] at hk
      cases hk
      rcases hw with hw | hw
      · exact hb.apart v hv d hd hw
      · rw [List.toList_toArray, hn v hv] at hw; cases hw
    · subst e
      rw [hm] at hk
      cases hk
      cases ho
  · rw [hk]
    refine hc.same k _ hk (keepsObj_map ho') (fun ⟨v, hv, e⟩ => ?_) (fun e => hf (e ▸ hfk))
    subst e
    have h1 := (hb.vars v hv).2
    unfold Vr at h1
    rw [h1] at hk
    cases hk
    cases ho'
/-- the frame of Wb, told of a later world -/
theorem Fr.renew (hb : Fr w0 Wb L D) (hE : Ext w0 w') (hL : L'.map (·.b) = L.map (·.b)) (hV : ∀ v ∈ L', Vr w'.heap v.b v.t v.cs) (hD : ∀ d ∈ D', d.p w'.heap ∧ ∃ e ∈ D, ∀ k, d.fp k → e.fp k) : Fr w0 w' L' D' := by
  have hmem : ∀ v ∈ L', ∃ u ∈ L, u.b = v.b := fun v hv => by
    have : v.b ∈ L.map (·.b) := by rw [← hL]; exact List.mem_map_of_mem hv
    obtain ⟨u, hu, e⟩ := List.mem_map.1 this
    exact ⟨u, hu, e⟩
  refine ⟨.of hE, fun v hv => ⟨?_, hV v hv⟩, ?_, fun d hd => (hD d hd).1, fun v hv d hd hk => ?_⟩
  · obtain ⟨u, hu, e⟩ := hmem v hv
    rw [← e]; exact (hb.vars u hu).1
  · have h1 : (L.map (·.b)).Pairwise (· ≠ ·) := List.pairwise_map.2 hb.dist
    rw [← hL] at h1
    exact List.pairwise_map.1 h1
  · obtain ⟨u, hu, e⟩ := hmem v hv
    obtain ⟨_, f, hf, hk'⟩ := hD d hd
    exact hb.apart u hu f hf (hk' _ (e ▸ hk))
theorem Fr.grd' {g m r c : Nat} {l : GL} (hF : Fr w0 w L D S) (h : dpGr g m r c l ∈ D) : Gr w.heap g m r c l := by have := hF.data _ h; unfold dpGr at this; exact this
/-- All's closure and list -/
theorem Fr.addAll {b bc n c : Nat} {t : TypeId} {cs : List Value} {ls : GL} (hF : Fr w0 w L D S) (hE : Ext w w') (hbc : w.heap.size ≤ bc) (hVc : Vr w'.heap bc t cs) (hb : w.heap.size ≤ b) (hs : Sm 4 plc w'.heap w'.heap.size (some ⟨b, 0, none⟩) n c ls) (hv : ∀ p ∈ ls, LI w'.heap (ival p.2) p.2 ∧ p.2.m.n ≤ 16384) :
    Fr w0 w' L (dpCb bc t cs :: dpGv ls :: dpSmG 4 plc (some ⟨b, 0, none⟩) n c ls :: D) S :=
  (hF.addPl hE hb hs hv).add _ (by unfold dpCb; exact hVc) fun v hv e => by
    unfold dpCb at e
    have h1 := (hF.vars v hv).2.lt
    have h2 : v.b = bc := e
    omega
/-- a grid whose places were among an older one's -/
theorem Gr.carry {g m r c : Nat} {l l' : GL} {H : Array Obj} (h1 : Gr H g m r c l') (hsub : ∀ p ∈ l', p ∈ l) (hv : ∀ p ∈ l, LI w'.heap (ival p.2) p.2 ∧ p.2.m.n ≤ 16384) (hg : w'.heap[g]? = H[g]?) (hm : w'.heap[m]? = H[m]?) : Gr w'.heap g m r c l' :=
  ⟨by have h2 := h1.cells; unfold Vr at h2 ⊢; rw [hg]; exact h2, by obtain ⟨es, k, h2, h3⟩ := h1.mp; exact ⟨es, k, hm.trans h2, h3⟩, fun p hp => hv p (hsub p hp)⟩
theorem KeepO.exs (h : Exs T w w') (hT : ∀ k, T k → ∃ o : Obj, w.heap[k]? = some o ∧ keepsObj o = true) : KeepO w w' :=
  ⟨h.size, fun k o hk ho => (h.block k (Array.getElem?_eq_some_iff.1 hk).1 fun ht => by obtain ⟨o', h1, h2⟩ := hT k ht; rw [hk] at h1; cases h1; rw [ho] at h2; cases h2).trans hk⟩
theorem KeepO.trans {a b c : World} (h : KeepO a b) (k : KeepO b c) : KeepO a c := ⟨Nat.le_trans h.size k.size, fun i o hi ho => k.same i o (h.same i o hi ho) ho⟩
theorem KeepO.ext {a b : World} (h : Ext a b) : KeepO a b := ⟨h.size, fun k o hk _ => (h.block k (Array.getElem?_eq_some_iff.1 hk).1).trans hk⟩
theorem KeepO.of {a b : World} (h : KeepsOthers a b) : KeepO a b := ⟨h.size, fun k o hk ho => h.same k o hk (by cases o <;> first | rfl | cases ho)⟩
theorem dpGr_fp {g m r c : Nat} {l : GL} {k : Nat} : (dpGr g m r c l).fp k ↔ (k = g ∨ k = m) := by unfold dpGr; exact Iff.rfl
/-- a round that turns the map and writes over the words of a block of its own -/
theorem Fr.round {w1 w2 w3 w4 w5 : World} {L0 L3 L5 : List VB} {v2 v3 v5 : VB} {D3 : List DP} {g r c : Nat} {l l' : GL} {B n cc : Nat} {t : TypeId} {A : Option Addr} {ws : List Nat}
    (hb : Fr w Wb L0 (dpGr g m r c l :: D)) (hn : ∀ v ∈ L0, v.cs.all noU64 = true) (hfr : ∀ x ∈ D, ¬ x.fp m) (hE : Ext Wb w1) (hc : Cx B w1 w2)
    (hO : OpnK w w2 (fun k => (∃ v ∈ v2 :: L0, v.b = k) ∨ k = m ∨ A = some ⟨k, 0, none⟩))
    (h3 : Fr w2 w3 (v3 :: L3) (dpGr g m r c l' :: D3) (fun k => (∃ v ∈ v2 :: L0, v.b = k) ∨ k = m ∨ A = some ⟨k, 0, none⟩)) (hv2 : Wb.heap.size ≤ v2.b) (e3 : v3.b = v2.b) (eL3 : L3.map (·.b) = L0.map (·.b))
    (how : Ow u64v w3.heap Wb.heap.size t A n cc ws) (hsub : ∀ p ∈ l', p ∈ l) (hX : Exs (fun k => A = some ⟨k, 0, none⟩) w3 w4)
    (h5 : Fr w4 w5 (v5 :: L5) [] (fun k => ∃ v ∈ v3 :: L3, v.b = k)) (eL5 : L5.map (·.b) = L0.map (·.b)) :
    KeepO w2 w5 ∧ Fr w w5 L5 (dpGr g m r c l' :: D) := by
  have hvar : ∀ k, (∃ v ∈ v3 :: L3, v.b = k) → ∃ v ∈ v2 :: L0, v.b = k := fun k ⟨v, hv, e⟩ => by
    rcases List.mem_cons.1 hv with rfl | hv
    · exact ⟨v2, List.mem_cons_self .., e3 ▸ e⟩
    · have : v.b ∈ L0.map (·.b) := by rw [← eL3]; exact List.mem_map_of_mem hv
      obtain ⟨u, hu, e'⟩ := List.mem_map.1 this
      exact ⟨u, List.mem_cons_of_mem _ hu, e'.trans e⟩
  have hx25 : Exs (fun k => (∃ v ∈ v2 :: L0, v.b = k) ∨ k = m ∨ A = some ⟨k, 0, none⟩) w2 w5 := (h3.exs.trans (hX.mono fun k _ h => .inr (.inr h))).trans (h5.exs.mono fun k _ h => .inl (hvar k h))
  have hA : ∀ k, A = some ⟨k, 0, none⟩ → Wb.heap.size ≤ k := fun k hk => how.lo' hk
  have hwb := hb.exs.size
  have hEw : Ext w w5 := (((Exs.of (S := fun _ => False) (Fr.outerK hO h3)).then hX (fun i hi h => by have := hA i h; omega)).then h5.exs (fun i hi h => by have := hO.lo i (.inl (hvar i h)); omega)).ext0
  obtain ⟨hgl, hml⟩ := (Fr.grd' hb (g := g) (m := m) (l := l) memH).lts
  have hG := Fr.grd' hb (g := g) (m := m) (l := l) memH
  obtain ⟨es, kk, hmp, _⟩ := hG.mp
  have hchg : Chg Wb w5 (fun k => ∃ v ∈ L0, v.b = k) m := ⟨Nat.le_trans (Nat.le_trans hE.size hc.size) hx25.size, fun k o hk ho hV hkm => by
    have hlt := (Array.getElem?_eq_some_iff.1 hk).1
    have h1 := (hE.block k hlt).trans hk
    have h2 := (hc.cells k o h1 ho).trans h1
    refine (hx25.block k (Array.getElem?_eq_some_iff.1 h2).1 ?_).trans h2
    rintro (⟨v, hv, e⟩ | e | e)
    · rcases List.mem_cons.1 hv with rfl | hv
      · omega
      · exact hV ⟨v, hv, e⟩
    · exact hkm e
    · have := hA k e; omega⟩
  have hb' := hb.add (dpGv l) (by unfold dpGv; exact hG.vals) fun v _ h => nf_gv h
  have hvals : ∀ p ∈ l, LI w5.heap (ival p.2) p.2 ∧ p.2.m.n ≤ 16384 := by
    have := Fr.deC hb' hn hchg hmp rfl (d := dpGv l) memH nf_gv
    unfold dpGv at this; exact this
  have hsame : ∀ k, k < Wb.heap.size → (∀ v ∈ v3 :: L3, v.b ≠ k) → w5.heap[k]? = w3.heap[k]? := fun k hk hv => by
    have hk3 : k < w3.heap.size := Nat.lt_of_lt_of_le hk (Nat.le_trans (Nat.le_trans hE.size hc.size) h3.exs.size)
    have a1 := hX.block k hk3 fun e => by have := hA k e; omega
    exact (h5.exs.block k (Nat.lt_of_lt_of_le hk3 hX.size) fun ⟨v, hv', e⟩ => hv v hv' e).trans a1
  have hap : ∀ k, (k = g ∨ k = m) → ∀ v ∈ v3 :: L3, v.b ≠ k := fun k hk v hv e => h3.apart v hv _ (List.mem_cons_self ..) (dpGr_fp.2 (e ▸ hk))
  refine ⟨KeepO.exs hx25 fun k hk => hO.cells k hk, hb.renew hEw eL5 (fun v hv => (h5.vars v (List.mem_cons_of_mem _ hv)).2) fun d hd => ?_⟩
  rcases List.mem_cons.1 hd with rfl | hd
  · refine ⟨?_, _, List.mem_cons_self .., fun k hk => dpGr_fp.2 (dpGr_fp.1 hk)⟩
    have := Gr.carry (Fr.grd' h3 (g := g) (m := m) (l := l') memH) hsub hvals (hsame g hgl (hap g (.inl rfl))) (hsame m hml (hap m (.inr rfl)))
    unfold dpGr; exact this
  · exact ⟨Fr.deC hb hn hchg hmp rfl (List.mem_cons_of_mem _ hd) (hfr d hd), d, List.mem_cons_of_mem _ hd, fun _ h => h⟩
theorem Ow.cells {α : Type} {f : α → Value} {H : Array Obj} {t : TypeId} {A : Option Addr} {n c lo : Nat} {l : List α} (h : Ow f H lo t A n c l) {k : Nat} (hk : A = some ⟨k, 0, none⟩) : ∃ o : Obj, H[k]? = some o ∧ o.isCells = true := by
  unfold Ow at h
  rcases h.2 with ⟨e, _⟩ | ⟨g, cur, e, _, hg, _⟩
  · rw [e] at hk; cases hk
  · rw [e] at hk; cases hk; exact ⟨_, hg, rfl⟩
theorem Marks.cxl {l : List Nat} {B : Nat} (h : Marks l w) (hc : Cx B w w') (hB : ∀ D ∈ l, D < B) : Marks l w' := ⟨h.nd, fun D hD => (hc.low D (hB D hD) (h.lt D hD)).trans (h.op D hD)⟩
theorem TI.seqM {P : Program} {R : Option Nat} {N : Fm} {Q : Exit → Act → World → Prop} {σ : Go.Eng.Store} {w : World} {x y : Code} (id : Nat) (hn : notHead id x = true) (h : TI P R N x (Exit.then (Kc P R y Q) Q) σ w) : TI P R N (x.seq y) Q σ w := TI.seq h
theorem G.exitK {N : Fm} {σ : Go.Eng.Store} {I : World → Prop} {Ix : Code → World → Prop} {id : Nat} (hK : KeepO W w) (h : Ix (.exit id) w) : G N (.exit id) (RPostK I Ix W) σ w := by
  unfold G; exact fun a ha => ⟨hK, h⟩
end
end Go.Eng
namespace Go.Proofs.Ytlpheckjogphmaa
open Go Go.Eng Go.Proofs Go.NatM Go.RowKit
/-- Set, whatever it answers -/
theorem gsetAny (w : World) (g m r c : Nat) (l : GL) (p1 p2 : Int) (x : IV) (hG : Gr w.heap g m r c l) (hz : NZ l) (hx : GI w.heap x) (hxn : x.m.n ≤ 1099511627776) :
    Cl Try.prog 16 #[.pointer (some ⟨g, 0, none⟩), .int .i64 p1, .int .i64 p2, ivA x] w (fun e w' => ∃ (er : Int) (l' : GL), e = .returned (.int .i64 er) ∧ Exs (fun k => k = m) w w' ∧ Gr w'.heap g m r c l' ∧ NZ l') := by
  by_cases hp : (0 ≤ p1 ∧ p1 < (r : Int)) ∧ (0 ≤ p2 ∧ p2 < (c : Int))
  · refine (gsetZ_ok w g m r c l p1 p2 x hG hz hp hx hxn).mono ?_
    rintro e w' ⟨er, l2, ⟨rfl, hE, hG2⟩, ⟨rfl, rfl, _⟩ | ⟨rfl, hnb, hz2, hv2, hl2⟩⟩
    · exact ⟨_, _, rfl, hE, hG2, hz⟩
    · exact ⟨_, _, rfl, hE, hG2, hz2⟩
  · refine (gset_out w g m r c l p1 p2 x hG hp).mono ?_
    rintro e w' ⟨rfl, hE⟩
    exact ⟨_, _, rfl, .of hE, hG.ext hE, hz⟩
end Go.Proofs.Ytlpheckjogphmaa

namespace Go.Proofs.Ytlpheckjogphmaa
open Go Go.Eng Go.Proofs Go.NatM Go.RowKit

theorem cellTypes_mat : Try.prog.cellTypes Try.prog.depth 24 = some [3, 3, 22] := by kernel_rfl
theorem cell_int {P : Program} {W : World} {base : Nat} {t : TypeId} {z : Int} (ht : P.underlying t = some (.int .i64)) (h : Cell.okWide P W .any base t (.int .i64 z)) : -9223372036854775808 ≤ z ∧ z < 9223372036854775808 := by
  simp [Cell.okWide, Cell.ok, ht, IntKind.has, IntKind.min, IntKind.max, IntKind.signed, IntKind.bits] at h
  omega
set_option maxRecDepth 10000 in
theorem inR_of {W : World} {base : Nat} {y : MV} (hv : Value.okWide Try.prog W .any base 24 (.agg (mvc y).toArray)) : InR y := by
  simp only [Value.okWide, Try.underlying24] at hv
  obtain ⟨cs, e, _, ts, hts, _, hall⟩ := hv
  cases e
  rw [cellTypes_mat] at hts
  cases hts
  obtain ⟨u, hu, h0⟩ := hall 0 _ rfl
  cases hu
  obtain ⟨u, hu, h1⟩ := hall 1 _ rfl
  cases hu
  exact ⟨cell_int Try.underlying3 h0, cell_int Try.underlying3 h1⟩
set_option maxRecDepth 10000 in
theorem open_matI {H : Type} {enc : TypeId × Value → H} {W : World} {base base' : Nat} {spare : Nat → Bool} {held : Bool} {v : Value} {d : DataW H} {ps : List MemPlace}
    (hv : Value.okWide Try.prog W .any base' 24 v) (h : DataW.Trod enc Try.prog W base spare held 24 v d ps) :
    ∃ y : MV, v = .agg (mvc y).toArray ∧ (RM0 W.heap y ∧ InR y) ∧ wts ivw y.l ≤ Rows.uptoBulk d := by
  obtain ⟨y, e, r, m⟩ := open_mat hv h
  subst e
  exact ⟨y, rfl, ⟨r, inR_of hv⟩, m⟩
theorem small_matI {H : Array Obj} {y : MV} {b : Nat} (h : b ≤ 1048576) (r : RM0 H y ∧ InR y) (hn : wts ivw y.l ≤ b) : RM H y 1048576 ∧ InR y := ⟨small_mat h r.1 hn, r.2⟩
end Go.Proofs.Ytlpheckjogphmaa

namespace Go.Proofs.Ytlpheckjogphmaa
open Go Go.Eng Go.Proofs Go.NatM Go.ChangeShapes Go.WideShapes Go.ChangeAt Go.RowKit Go.Deep
/-- a change handed in -/
structure CV where
  k : Int
  i : Int
  j : Int
  v : IV
deriving Inhabited
def cvc (x : CV) : List Value := [.int .i64 x.k, .int .i64 x.i, .int .i64 x.j, .bool x.v.neg, .slice x.v.m.A x.v.m.n x.v.m.c]
def cvw (x : CV) : Nat := x.v.m.n
structure CG (H : Array Obj) (x : CV) : Prop where
  k : -9223372036854775808 ≤ x.k ∧ x.k < 9223372036854775808
  i : -9223372036854775808 ≤ x.i ∧ x.i < 9223372036854775808
  j : -9223372036854775808 ≤ x.j ∧ x.j < 9223372036854775808
  v : GI H x.v
theorem len5 {α : Type} {l : List α} (h : l.length = 5) : ∃ a b c d e, l = [a, b, c, d, e] := by
  match l, h with
  | [a, b, c, d, e], _ => exact ⟨a, b, c, d, e, rfl⟩
set_option maxRecDepth 10000 in
theorem open_act {H : Type} {enc : TypeId × Value → H} {W : World} {base : Nat} {spare : Nat → Bool} {held : Bool} (m : Nat) (cs : List Value) (x : DataW H × List MemPlace)
    (h : DataW.trod enc Try.prog W base spare held m 44 cs = some x) : ∃ y : CV, cs = cvc y ∧ CG W.heap y ∧ cvw y ≤ Rows.uptoBulk x.1 := by
  obtain ⟨xs, q, _, rfl, hl, hxl, hall⟩ := DataW.trod_struct Try.underlying44 h
  have hl' : cs.length = 5 := hl.trans (by kernel_rfl)
  have hxl' : xs.length = 4 := hxl.trans rfl
  obtain ⟨v0, v1, v2, v3, v4, rfl⟩ := len5 hl'
  obtain ⟨x0, x1, x2, x3, rfl⟩ := len4 hxl'
  have ci : Try.prog.cellsOf 3 = 1 := by kernel_rfl
  have cl : Try.prog.cellsOf 42 = 2 := by kernel_rfl
  have h0 : DataW.trod enc Try.prog W base spare held q 3 (([v0, v1, v2, v3, v4].drop 0).take (Try.prog.cellsOf 3)) = some x0 := hall 0 _ rfl
  rw [ci] at h0
  have h1 : DataW.trod enc Try.prog W base spare held q 3 (([v0, v1, v2, v3, v4].drop 1).take (Try.prog.cellsOf 3)) = some x1 := hall 1 _ rfl
  rw [ci] at h1
  have h2 : DataW.trod enc Try.prog W base spare held q 3 (([v0, v1, v2, v3, v4].drop 2).take (Try.prog.cellsOf 3)) = some x2 := hall 2 _ rfl
  rw [ci] at h2
  have h3 : DataW.trod enc Try.prog W base spare held q 42 (([v0, v1, v2, v3, v4].drop 3).take (Try.prog.cellsOf 42)) = some x3 := hall 3 _ rfl
  rw [cl] at h3
  obtain ⟨z0, e0, b0⟩ := open_i64c Try.underlying3 h0
  obtain rfl : v0 = .int .i64 z0 := by simpa using e0
  obtain ⟨z1, e1, b1⟩ := open_i64c Try.underlying3 h1
  obtain rfl : v1 = .int .i64 z1 := by simpa using e1
  obtain ⟨z2, e2, b2⟩ := open_i64c Try.underlying3 h2
  obtain rfl : v2 = .int .i64 z2 := by simpa using e2
  obtain ⟨y, e3, g3, m3⟩ := open_int q _ x3 h3
  obtain ⟨rfl, rfl⟩ : v3 = .bool y.neg ∧ v4 = .slice y.m.A y.m.n y.m.c := by simpa [ivc] using e3
  refine ⟨⟨z0, z1, z2, y⟩, rfl, ⟨b0, b1, b2, g3⟩, ?_⟩
  simp only [cvw, List.map_cons, List.map_nil, Rows.uptoBulk, Rows.uptoBulkAll]
  unfold ivw at m3
  omega
set_option maxRecDepth 100000 in
/-- changes handed in -/
theorem open_acts {H : Type} {enc : TypeId × Value → H} {W : World} {base base' : Nat} {spare : Nat → Bool} {held : Bool} {v : Value} {d : DataW H} {ps : List MemPlace}
    (hv : Value.okWide Try.prog W .any base' 25 v) (h : DataW.Trod enc Try.prog W base spare held 25 v d ps) :
    ∃ A n c L, v = .slice A n c ∧ Sm 5 cvc W.heap W.heap.size A n c L ∧ (∀ s ∈ L, CG W.heap s) ∧ (wts cvw L + 1 ≤ Rows.uptoBulk d ∧ n + 1 ≤ Rows.uptoBulk d) := by
  obtain ⟨A, n, c, rfl⟩ := okWide_slice Try.underlying25 hv
  obtain ⟨fuel, hf⟩ := h
  obtain ⟨A', n', c', L, e, r⟩ := open_elems (x := (d, ps)) cvc (fun s => CG W.heap s) cvw (show 0 < 5 by omega) (fun _ => rfl) Try.underlying25 (by kernel_rfl) (fun m cs x h => open_act m cs x h) hf
  have e' : [Value.slice A n c] = [.slice A' n' c'] := e
  simp at e'
  obtain ⟨rfl, rfl, rfl⟩ := e'
  exact ⟨A, n, c, L, rfl, r⟩
theorem small_acts {n : Nat} {L : List CV} {b : Nat} (h : b ≤ 1048576) (hn : wts cvw L + 1 ≤ b ∧ n + 1 ≤ b) : wts cvw L ≤ 1048576 ∧ n ≤ 1048576 := by omega
end Go.Proofs.Ytlpheckjogphmaa

set_option linter.unusedSectionVars false
namespace Go.Proofs.Ytlpheckjogphmaa
open Go Go.Eng Go.Proofs Go.NatM Go.RowKit
theorem AllIt.cx {b ba c N B : Nat} {ls : GL} {W W' : World} (h : AllIt b ba c N ls W) (hc : Cx B W W') : AllIt b ba c N ls W' :=
  ⟨vr_cx h.1 hc, (Sm.de (F := fun _ => True) (fun _ _ => trivial) hc.de h.2.1).size, fun p hp => ⟨LI.de (F := fun _ => True) hc.de (h.2.2 p hp).1, (h.2.2 p hp).2⟩⟩
theorem Fr.allIt {S : Nat → Prop} {w0 w : World} {L : List VB} {D : List DP} {b ba c N : Nat} {ls : GL} (hF : Fr w0 w L D S) (h1 : dpCb b 33 [.slice (some ⟨ba, 0, none⟩) N c] ∈ D) (h2 : dpSmG 4 plc (some ⟨ba, 0, none⟩) N c ls ∈ D) (h3 : dpGv ls ∈ D) : AllIt b ba c N ls w :=
  ⟨by have := hF.data _ h1; unfold dpCb at this; exact this, Fr.smG hF h2, Fr.gv hF h3⟩
set_option maxRecDepth 100000 in
set_option maxHeartbeats 16000000 in
theorem rgs_bad (w : World) (x : MV) (hx : RM w.heap x 1048576 ∧ InR x) (hn : ¬ ∃ r c, Sound x r c) (z : Int) (A : Option Addr) (n k : Nat) :
    Cl Try.prog 3 #[.agg (mvc x).toArray, .int .i64 z, .slice A n k] w (YesM w) := by
  have h1 := fun w1 => ofBad w1 x hx.2 hn
  have h2 := fun w1 => chk_bad w1 x hx.2 hn
  obtain ⟨xr, xc, xA, xn, xk, xl⟩ := x
  refine enterM Try.func3 rfl rfl rfl (fun _ h => by cases h.1) ?_
  have hF := Fr.refl w
  repeat' (first | (refine TL.isOp ?_; first | (refine TL.isG ?_; first | refine TL.grun rfl rfl rfl ?_ | refine TL.gskip rfl rfl rfl rfl ?_ | refine TL.gskipU rfl rfl rfl ?_) | (refine TL.isCall ?_; refine TL.call rfl rfl ?_; first | (refine (awake_ok _).mono ?_; rintro _ wy ⟨rfl, hE⟩; replace hF := hF.exts hE; clear hE; refine Back.mk ?_) | (refine (h1 _).mono ?_; rintro _ wy ⟨rfl, hE⟩; replace hF := hF.exts hE; clear hE; refine Back.mk ?_) | (refine (h2 _).mono ?_; rintro _ wy ⟨rfl, hE⟩; replace hF := hF.exts hE; clear hE; refine Back.mk ?_)) | (refine TL.isBin ?_; refine TL.cmpG rfl rfl rfl rfl (fun hc => ?_) (fun hc => ?_) <;> (try (first | (exfalso; omega) | exact absurd rfl hc))) | (apply TL.ev; (case hd => rfl); (case h => (first | exact ev_simple rfl | (apply Ev.isBin; first | exact ev_neqB (r := false) rfl rfl rfl | exact ev_eqlP rfl rfl rfl) | (apply Ev.isLoad; first | exact ev_loadFr hF rfl (by refine ⟨?_, ?_⟩; (focus (repeat (first | exact InV.head | apply InV.tail))); rfl) | exact ev_loadAFr hF rfl (by refine ⟨?_, ?_⟩; (focus (repeat (first | exact InV.head | apply InV.tail))); rfl))))) | (refine TL.storeFr hF rfl rfl rfl rfl (by refine ⟨?_, ?_⟩; (focus (repeat (first | apply SetV.head | apply SetV.tail))); rfl) rfl ?_; clear hF; intro ws hF) | (refine TL.boxAFr hF (d := 3) (cs := [.int .i64 xr, .int .i64 xc, .slice xA xn xk]) rfl rfl ?_; clear hF; intro w3 b3 hF) | (refine TL.boxFr hF (d := 4) rfl rfl ?_; clear hF; intro w4 b4 hF) | (refine TL.allocFr hF (d := 6) rfl rfl ?_; clear hF; intro w6 b6 hF) | (refine TL.allocFr hF (d := 7) rfl rfl ?_; clear hF; intro w7 b7 hF)) | (refine G.is ?_; first | refine G.nextI ?_ | refine G.thenR ?_) | refine TL.nil ?_ | (refine TI.is ?_; first | refine TI.seq ?_ | refine TI.region rfl ?_ | refine TI.cond_t rfl ?_ | refine TI.cond_f rfl ?_ | refine TI.ret ?_ | refine TI.skip ?_))
  all_goals exact G.retMC1 rfl rfl (held_one (hF.var (b := b6) (by repeat (first | exact InV.head | apply InV.tail)))) ⟨rfl, hF.ext⟩
set_option maxRecDepth 100000 in
set_option maxHeartbeats 16000000 in
theorem rgs_large (w : World) (x : MV) (r c : Nat) (gx : GM w.heap x r c 1048576) (hb : ∃ y ∈ x.l, big y) (z : Int) (A : Option Addr) (n k : Nat) :
    Cl Try.prog 3 #[.agg (mvc x).toArray, .int .i64 z, .slice A n k] w (YesM w) := by
  have h1 := fun w1 (hE : Ext w w1) => ofLarge w1 x r c (gx.ext hE) hb
  have h2 := fun w1 => chk_ok w1 x r c gx.sh
  have hn : x.n ≤ 1048576 := by have := gx.sh.n; have := mul64 gx.sh.r64 gx.sh.c64; omega
  have h3 := fun w1 (hE : Ext w w1) => longL w1 x 1048576 (gx.ext hE).s (gx.ext hE).g (by omega) hn true ⟨fun _ => hb, fun _ => rfl⟩
  obtain ⟨xr, xc, xA, xn, xk, xl⟩ := x
  refine enterM Try.func3 rfl rfl rfl (fun _ h => by cases h.1) ?_
  have hF := Fr.refl w
  repeat' (first | (refine TL.isOp ?_; first | (refine TL.isG ?_; first | refine TL.grun rfl rfl rfl ?_) | (refine TL.isCall ?_; refine TL.call rfl rfl ?_; first | (refine (awake_ok _).mono ?_; rintro _ wy ⟨rfl, hE⟩; replace hF := hF.exts hE; clear hE; refine Back.mk ?_) | (refine (h1 _ hF.ext).mono ?_; rintro _ wy ⟨rfl, hE⟩; replace hF := hF.exts hE; clear hE; refine Back.mk ?_) | (refine (h2 _).mono ?_; rintro _ wy ⟨rfl, hE⟩; replace hF := hF.exts hE; clear hE; refine Back.mk ?_) | (refine (h3 _ hF.ext).mono ?_; rintro _ wy ⟨rfl, hE⟩; replace hF := hF.exts hE; clear hE; refine Back.mk ?_)) | (refine TL.isBin ?_; refine TL.cmpG rfl rfl rfl rfl (fun hc => ?_) (fun hc => ?_) <;> (try (first | (exfalso; omega) | exact absurd rfl hc))) | (apply TL.ev; (case hd => rfl); (case h => (first | exact ev_simple rfl | (apply Ev.isBin; first | exact ev_neqB (r := false) rfl rfl rfl | exact ev_eqlP rfl rfl rfl) | (apply Ev.isLoad; first | exact ev_loadFr hF rfl (by refine ⟨?_, ?_⟩; (focus (repeat (first | exact InV.head | apply InV.tail))); rfl) | exact ev_loadAFr hF rfl (by refine ⟨?_, ?_⟩; (focus (repeat (first | exact InV.head | apply InV.tail))); rfl))))) | (refine TL.storeFr hF rfl rfl rfl rfl (by refine ⟨?_, ?_⟩; (focus (repeat (first | apply SetV.head | apply SetV.tail))); rfl) rfl ?_; clear hF; intro ws hF) | (refine TL.boxAFr hF (d := 3) (cs := [.int .i64 xr, .int .i64 xc, .slice xA xn xk]) rfl rfl ?_; clear hF; intro w3 b3 hF) | (refine TL.boxFr hF (d := 4) rfl rfl ?_; clear hF; intro w4 b4 hF) | (refine TL.allocFr hF (d := 6) rfl rfl ?_; clear hF; intro w6 b6 hF) | (refine TL.allocFr hF (d := 7) rfl rfl ?_; clear hF; intro w7 b7 hF)) | (refine G.is ?_; first | refine G.nextI ?_ | refine G.thenR ?_) | refine TL.nil ?_ | (refine TI.is ?_; first | refine TI.seq ?_ | refine TI.region rfl ?_ | refine TI.cond_t rfl ?_ | refine TI.cond_f rfl ?_ | refine TI.ret ?_ | refine TI.skip ?_))
  all_goals exact G.retMC1 rfl rfl (held_one (hF.var (b := b6) (by repeat (first | exact InV.head | apply InV.tail)))) ⟨rfl, hF.ext⟩
end Go.Proofs.Ytlpheckjogphmaa

set_option linter.unusedSectionVars false
namespace Go.Proofs.Ytlpheckjogphmaa
open Go Go.Eng Go.Proofs Go.NatM Go.RowKit
set_option maxRecDepth 100000 in
set_option maxHeartbeats 40000000 in
theorem rgs_on (w : World) (x : MV) (r c : Nat) (gx : GM w.heap x r c 1048576) (hb : ∀ y ∈ x.l, ¬ big y) (z : Int) (A : Option Addr) (n k : Nat) (L : List CV) (hs : Sm 5 cvc w.heap w.heap.size A n k L) (hg : ∀ s ∈ L, CG w.heap s) (hw : ∀ s ∈ L, s.v.m.n ≤ 1048576) (hn : n ≤ 1048576) :
    Cl Try.prog 3 #[.agg (mvc x).toArray, .int .i64 z, .slice A n k] w (YesM w) := by
  have hr := gx.sh.r64
  have hcc := gx.sh.c64
  have hrc := mul64 hr hcc
  have hlen := hs.len
  have h1 := fun w1 (hE : Ext w w1) => ofS w1 x r c (gx.ext hE) hb
  have hZi := rowsF_in (ent x c) r c
  obtain ⟨Z, hZ⟩ : ∃ Z, rowsF (ent x c) c r 0 = Z := ⟨_, rfl⟩
  rw [hZ] at h1 hZi
  clear hZ gx hb
  obtain ⟨xr, xc, xA, xn, xk, xl⟩ := x
  refine enterM Try.func3 rfl rfl rfl (fun _ h => by cases h.1) ?_
  have hF := Fr.refl w
  repeat' (first | (refine TL.isOp ?_; first | (refine TL.isG ?_; first | refine TL.grun rfl rfl rfl ?_) | (refine TL.isCall ?_; refine TL.call rfl rfl ?_; first | (refine (awake_ok _).mono ?_; rintro _ wy ⟨rfl, hE⟩; replace hF := hF.exts hE; clear hE; refine Back.mk ?_) | (refine (h1 _ hF.ext).mono ?_; rintro _ wy ⟨g, m, N0, rfl, hE, hg1, hm1, hG⟩; have hm := Nat.le_trans hF.exs.size hm1; have hmw := hm1; have hmlt := hG.lt.2; have hN0 := gz_n hG hZi hrc; obtain ⟨l0, hGr, hz0, hlN, hv0⟩ := hG; replace hF := hF.addNew hE (dpGr g m r c l0) (by unfold dpGr; exact hGr) (by unfold dpGr; rintro k (rfl | rfl); exact hg1; exact hm1); clear hE hGr hg1 hm1; refine Back.mk ?_) | (refine (placesS _ g m r c N0 Z ⟨l0, Fr.grd' hF (by repeat (first | exact memH | apply memT)), hz0, hlN, hv0⟩ hN0).mono ?_; rintro _ wy ⟨l1, b1, c1, rfl, hE, hb1, hs1, hv1, hp1⟩; have hb1m : b1 ≠ m := (by have := (Fr.grd' hF (g := g) (m := m) (l := l0) (by repeat (first | exact memH | apply memT))).lts.2; omega); replace hF := hF.addPl hE hb1 hs1 hv1; clear hE hs1 hv1 hb1; refine Back.mk ?_) | (refine (allS _ g m r c N0 Z ⟨l0, Fr.grd' hF (by repeat (first | exact memH | apply memT)), hz0, hlN, hv0⟩ hN0).mono ?_; rintro _ wy ⟨bc, b2, c2, l2, rfl, hVc, hs2, hv2, hp2, hE, hbc, hb2⟩; have hb2m : b2 ≠ m := (by have := (Fr.grd' hF (g := g) (m := m) (l := l0) (by repeat (first | exact memH | apply memT))).lts.2; omega); have hbcm : bc ≠ m := (by have := (Fr.grd' hF (g := g) (m := m) (l := l0) (by repeat (first | exact memH | apply memT))).lts.2; omega); replace hF := Fr.addAll hF hE hbc hVc hb2 hs2 hv2; clear hE hs2 hv2 hb2 hVc hbc; refine Back.mk ?_) | (refine (lenF _ g m r c N0 Z ⟨l0, Fr.grd' hF (by repeat (first | exact memH | apply memT)), hz0, hlN, hv0⟩).mono ?_; rintro _ wy ⟨rfl, hE⟩; replace hF := hF.exts hE; clear hE; refine Back.mk ?_)) | (refine TL.isBin ?_; refine TL.cmpG rfl rfl rfl rfl (fun hc => ?_) (fun hc => ?_) <;> (try (first | (exfalso; omega) | exact absurd rfl hc))) | (apply TL.ev; (case hd => rfl); (case h => (first | exact ev_simple rfl | (apply Ev.isBin; first | exact ev_neqB (r := false) rfl rfl rfl | exact ev_eqlP rfl rfl rfl) | (apply Ev.isLoad; first | exact ev_loadFr hF rfl (by refine ⟨?_, ?_⟩; (focus (repeat (first | exact InV.head | apply InV.tail))); rfl) | exact ev_loadAFr hF rfl (by refine ⟨?_, ?_⟩; (focus (repeat (first | exact InV.head | apply InV.tail))); rfl))))) | (refine TL.storeFr hF rfl rfl rfl rfl (by refine ⟨?_, ?_⟩; (focus (repeat (first | apply SetV.head | apply SetV.tail))); rfl) rfl ?_; clear hF; intro ws hF) | (refine TL.boxAFr hF (d := 3) (cs := [.int .i64 xr, .int .i64 xc, .slice xA xn xk]) rfl rfl ?_; clear hF; intro w3 b3 hF) | (refine TL.boxFr hF (d := 4) rfl rfl ?_; clear hF; intro w4 b4 hF) | (refine TL.allocFr hF (d := 6) rfl rfl ?_; clear hF; intro w6 b6 hF) | (refine TL.allocFr hF (d := 7) rfl rfl ?_; clear hF; intro w7 b7 hF) | (refine TL.allocFr hF (d := 9) rfl rfl ?_; clear hF; intro w9 b9 hF)) | (refine TF.is ?_; first | refine TF.nil ?_ | refine TF.e rfl ?_ | (refine TF.pick rfl ?_; first | (refine TFo.cmpGg rfl rfl rfl rfl rfl rfl rfl (fun hc => ?_) (fun hc => ?_) <;> (try (first | (exfalso; omega) | exact absurd rfl hc))) | (apply TFo.ev; (case hd => rfl); (case h => (intro wh hF; first | exact ev_simple rfl | (apply Ev.isBin; first | exact ev_eqlFn rfl rfl)))) | (apply TFo.evg rfl rfl rfl; (case hd => rfl); (case h => (intro wh hF; first | (apply Ev.isLoad; first | exact ev_loadFr hF rfl (by refine ⟨?_, ?_⟩; (focus (repeat (first | exact InV.head | apply InV.tail))); rfl)) | exact ev_len rfl))))) | (refine G.is ?_; first | refine G.nextI ?_ | refine G.only ?_ | refine G.tree rfl (by first | exact hF | exact hF.weak (List.sublist_append_right _ _) (by repeat (first | exact allR | apply allT)) | exact hF.weak (by repeat (first | exact List.Sublist.refl _ | apply List.Sublist.cons)) (by repeat (first | exact allR | apply allT)) | exact hF.weak (by repeat (first | exact List.Sublist.refl _ | apply List.Sublist.cons)) (by repeat (first | exact allN | refine allH (by repeat (first | exact memH | apply memT)) ?_))) ?_) | refine TL.nil ?_ | (refine TI.is ?_; first | refine TI.seqM 11 rfl ?_ | refine TI.region rfl ?_ | refine TI.block ?_ | refine TI.cond_f rfl ?_ | refine TI.skip ?_ | (refine TI.regionFr hF 8 9 (.s 0 (.s 1 (.s 2 (.s 3 (.s 4 (.s 5 (.e 6 (.s 7 (.s 8 .nil))))))))) mixed (by kernel_rfl) rfl ?_; clear hF; intro wr hF)))
  clear hc
  skip
  have hfr : ∀ x ∈ [dpCb bc 33 [.slice (some ⟨b2, 0, none⟩) N0 c2], dpGv l2, dpSmG 4 plc (some ⟨b2, 0, none⟩) N0 c2 l2, dpGv l1, dpSmG 4 plc (some ⟨b1, 0, none⟩) N0 c1 l1], ¬ x.fp m := nfC (nf_cb hbcm) (nfC nf_gv (nfC (nf_smG fun ⟨_, o, e⟩ => hb2m (by cases e; rfl)) (nfC nf_gv (nfC (nf_smG fun ⟨_, o, e⟩ => hb1m (by cases e; rfl)) nfN))))
  refine TI.loop (α := Nat × GL) (fun x => [(2, .slice A n k), (4, .pointer (some ⟨b4, 0, none⟩)), (6, .pointer (some ⟨b6, 0, none⟩)), (7, .pointer (some ⟨b7, 0, none⟩)), (9, .pointer (some ⟨b9, 0, none⟩)), (10, .func (.func 57) #[] #[.pointer (some ⟨bc, 0, none⟩)]), (11, .int .i64 (x.1 : Int))])
    (fun x W => x.1 ≤ n ∧ NZ x.2 ∧ Fr w W [⟨b9, 33, [.slice (some ⟨b1, 0, none⟩) N0 c1]⟩, ⟨b7, 26, [.pointer (some ⟨g, 0, none⟩)]⟩, ⟨b6, 4, [.bool false]⟩, ⟨b4, 3, [.int .i64 z]⟩] [dpGr g m r c x.2, dpCb bc 33 [.slice (some ⟨b2, 0, none⟩) N0 c2], dpGv l2, dpSmG 4 plc (some ⟨b2, 0, none⟩) N0 c2 l2, dpGv l1, dpSmG 4 plc (some ⟨b1, 0, none⟩) N0 c1 l1])
    (fun x => n - x.1) (0, l0) (by repeat (first | exact Sub.nil _ | refine Sub.cons rfl ?_ | refine Sub.cons' rfl (int_congr (by omega)) ?_)) ⟨Nat.zero_le _, hz0, hF.weak (by repeat (first | exact List.Sublist.refl _ | apply List.Sublist.cons_cons | apply List.Sublist.cons)) (allH (by repeat (first | exact memH | apply memT)) (allH (by repeat (first | exact memH | apply memT)) (allH (by repeat (first | exact memH | apply memT)) (allH (by repeat (first | exact memH | apply memT)) (allH (by repeat (first | exact memH | apply memT)) (allH (by repeat (first | exact memH | apply memT)) allN))))))⟩ ?_
  clear hF hz0 hv0 hlN l0
  rintro ⟨i, l⟩ w1 ⟨hin, hz, hF⟩
  dsimp only at hin hz hF ⊢
  rcases Nat.lt_or_ge i n with hlt | hge
  · obtain ⟨y, hy⟩ : ∃ y, L[i]? = some y := ⟨_, List.getElem?_eq_getElem (by omega)⟩
    have gy := hg y (List.mem_of_getElem? hy)
    have wy := hw y (List.mem_of_getElem? hy)
    have hset := fun w1 (l : GL) (hG : Gr w1.heap g m r c l) (hE : Ext w w1) (hz : NZ l) => gsetAny w1 g m r c l y.i y.j y.v hG hz (gy.v.ext hE) (by omega)
    obtain ⟨yk, yi, yj, ⟨ys, ⟨yA, yn, yc, yl⟩⟩⟩ := y
    rcases hs.mem with h0 | ⟨bA, oA, rfl, _⟩
    · exact absurd h0 (by omega)
    repeat' (first | (refine TL.isOp ?_; first | (refine TL.isCall ?_; refine TL.call rfl rfl ?_; first | (refine (hset _ l (Fr.grd' hF (by repeat (first | exact memH | apply memT))) hF.ext hz).mono ?_; rintro _ wq ⟨er, l', rfl, hE, hG, hz'⟩; replace hF := Fr.callGr hF hE (.inl hm) hfr hG; clear hE hG; refine Back.mk ?_)) | (refine TL.isBin ?_; refine TL.cmpG rfl rfl rfl rfl (fun hc => ?_) (fun hc => ?_) <;> (try (first | (exfalso; omega) | exact absurd rfl hc))) | (apply TL.ev; (case hd => rfl); (case h => (first | exact ev_simple rfl | (apply Ev.isBin; first | exact ev_arN rfl rfl rfl (by omega)) | exact ev_len rfl)))) | (refine TF.is ?_; first | refine TF.nil ?_ | refine TF.e rfl ?_ | (refine TF.pick rfl ?_; first | (apply TFo.ev; (case hd => rfl); (case h => (intro wh hF; first | exact ev_simple rfl | (apply Ev.isLoad; first | exact ev_loadFr hF rfl (by refine ⟨?_, ?_⟩; (focus (repeat (first | exact InV.head | apply InV.tail))); rfl) | exact ev_loadMF rfl (hs.ext hF.ext) hy rfl | exact ev_loadMS rfl (hs.ext hF.ext) hy rfl) | exact ev_fieldAddrE rfl rfl | exact ev_indexM rfl rfl hlt (hs.ext hF.ext).some))))) | (refine G.is ?_; first | refine G.nextI ?_ | refine G.blockN ?_ | refine G.only ?_ | refine G.treeEnd rfl ?_) | refine TL.nil ?_ | (refine TI.is ?_; first | refine TI.seq ?_ | refine TI.region rfl ?_ | refine TI.block ?_ | refine TI.cond_t rfl ?_ | refine TI.skip ?_ | (refine TI.regionFd hF 13 16 (.s 0 (.s 1 (.s 2 (.s 3 (.s 4 (.s 5 (.s 6 (.s 7 (.s 8 (.s 9 (.s 10 (.s 11 (.s 12 (.s 13 (.s 14 (.s 15 (.e 16 .nil))))))))))))))))) mixed (by kernel_rfl) rfl ?_; clear hF; intro wr hF)))
    all_goals exact G.again (i + 1, l') (by repeat (first | exact Sub.nil _ | refine Sub.cons rfl ?_ | refine Sub.cons' rfl (int_congr (by omega)) ?_)) ⟨hlt, hz', hF⟩ (by dsimp only; omega)
  obtain rfl : i = n := by omega
  clear hin hge hs hg hw hlen
  repeat' (first | (refine TL.isOp ?_; first | (refine TL.isBin ?_; refine TL.cmpG rfl rfl rfl rfl (fun hc => ?_) (fun hc => ?_) <;> (try (first | (exfalso; omega) | exact absurd rfl hc))) | (apply TL.ev; (case hd => rfl); (case h => (first | exact ev_simple rfl | exact ev_len rfl))) | (refine TL.storeFr hF rfl rfl rfl rfl (by refine ⟨?_, ?_⟩; (focus (repeat (first | apply SetV.head | apply SetV.tail))); rfl) rfl ?_; clear hF; intro ws hF) | (refine TL.allocFr hF (d := 12) rfl rfl ?_; clear hF; intro w12 b12 hF)) | (refine G.is ?_; first | refine G.nextI ?_ | refine G.blockE ?_ | refine G.thenE ?_) | refine TL.nil ?_ | (refine TI.is ?_; first | refine TI.seq ?_ | refine TI.region rfl ?_ | refine TI.block ?_ | refine TI.cond_f rfl ?_ | refine TI.exit ?_))
  refine TI.loopM (α := Nat × Nat × GL × List Nat) (fun x => ⟨Try.f3.ntmps, x.2.2.2.map markOf⟩) (fun x => [(4, .pointer (some ⟨b4, 0, none⟩)), (6, .pointer (some ⟨b6, 0, none⟩)), (7, .pointer (some ⟨b7, 0, none⟩)), (9, .pointer (some ⟨b9, 0, none⟩)), (10, .func (.func 57) #[] #[.pointer (some ⟨bc, 0, none⟩)]), (12, .pointer (some ⟨x.2.1, 0, none⟩))])
    (fun x W => x.1 ≤ 3 ∧ Marks x.2.2.2 W ∧ (∀ E ∈ x.2.2.2, w.heap.size ≤ E) ∧ Fr w W [⟨x.2.1, 3, [.int .i64 (x.1 : Int)]⟩, ⟨b9, 33, [.slice (some ⟨b1, 0, none⟩) N0 c1]⟩, ⟨b7, 26, [.pointer (some ⟨g, 0, none⟩)]⟩, ⟨b6, 4, [.bool false]⟩, ⟨b4, 3, [.int .i64 z]⟩] [dpGr g m r c x.2.2.1, dpCb bc 33 [.slice (some ⟨b2, 0, none⟩) N0 c2], dpGv l2, dpSmG 4 plc (some ⟨b2, 0, none⟩) N0 c2 l2, dpGv l1, dpSmG 4 plc (some ⟨b1, 0, none⟩) N0 c1 l1])
    (fun x => 3 - x.1) (0, b12, l, []) rfl (by repeat (first | exact Sub.nil _ | refine Sub.cons rfl ?_ | refine Sub.cons' rfl (int_congr (by omega)) ?_)) ⟨Nat.zero_le _, Marks.nil _, fun _ h => (by cases h), hF⟩ ?_
  clear hF hz l b12
  rintro ⟨rd, b12, l, ds⟩ W1 ⟨hrd, hM, hds, hF⟩
  dsimp only at hrd hM hds hF ⊢
  obtain ⟨S, hO, hF1⟩ := hF.open
  replace hF := hF1
  clear hF1
  rcases Nat.lt_or_ge rd 3 with hr3 | hr3
  · repeat' (first | (refine TL.isOp ?_; first | (refine TL.isBin ?_; refine TL.cmpG rfl rfl rfl rfl (fun hc => ?_) (fun hc => ?_) <;> (try (first | (exfalso; omega) | exact absurd rfl hc))) | (apply TL.ev; (case hd => rfl); (case h => (first | exact ev_simple rfl | (apply Ev.isLoad; first | exact ev_loadFr hF rfl (by refine ⟨?_, ?_⟩; (focus (repeat (first | exact InV.head | apply InV.tail))); rfl))))) | (refine TL.storeFr hF rfl rfl rfl rfl (by refine ⟨?_, ?_⟩; (focus (repeat (first | apply SetV.head | apply SetV.tail))); rfl) rfl ?_; clear hF; intro ws hF) | (refine TL.allocFr hF (d := 13) rfl rfl ?_; clear hF; intro w13 b13 hF)) | (refine G.is ?_; first | refine G.nextI ?_) | refine TL.nil ?_ | (refine TI.is ?_; first | refine TI.seq ?_ | refine TI.region rfl ?_ | refine TI.block ?_ | refine TI.cond_t rfl ?_ | refine TI.skip ?_))
    have hMl := hM.keep (KeepO.of (Fr.others hO hF))
    have hFl := Fr.shut hO hF
    clear hF hO S hM
    rename_i wl
    have hB := hFl.exs.size
    have hdl := hMl.lt
    refine TI.rangeFuncM (all_iter bc b2 c2 N0 l2 (by omega)) rfl inferInstance (fun _ => rfl) rfl (Fr.allIt hFl (by repeat (first | exact memH | apply memT)) (by repeat (first | exact memH | apply memT)) (by repeat (first | exact memH | apply memT))) (fun W W' h hc => h.cx hc)
      (fun j W => ∃ l, Marks ds W ∧ Fr w W [⟨b13, 3, [.int .i64 (j : Int)]⟩, ⟨b12, 3, [.int .i64 (rd : Int)]⟩, ⟨b9, 33, [.slice (some ⟨b1, 0, none⟩) N0 c1]⟩, ⟨b7, 26, [.pointer (some ⟨g, 0, none⟩)]⟩, ⟨b6, 4, [.bool false]⟩, ⟨b4, 3, [.int .i64 z]⟩] [dpGr g m r c l, dpCb bc 33 [.slice (some ⟨b2, 0, none⟩) N0 c2], dpGv l2, dpSmG 4 plc (some ⟨b2, 0, none⟩) N0 c2 l2, dpGv l1, dpSmG 4 plc (some ⟨b1, 0, none⟩) N0 c1 l1])
      (fun c' W => c' = .exit 4 ∧ rd = 1 ∧ ∃ (j : Nat) (l : GL), (j : Int) = z ∧ j ≤ N0 ∧ Marks ds W ∧ Fr w W [⟨b13, 3, [.int .i64 (j : Int)]⟩, ⟨b12, 3, [.int .i64 (rd : Int)]⟩, ⟨b9, 33, [.slice (some ⟨b1, 0, none⟩) N0 c1]⟩, ⟨b7, 26, [.pointer (some ⟨g, 0, none⟩)]⟩, ⟨b6, 4, [.bool false]⟩, ⟨b4, 3, [.int .i64 z]⟩] [dpGr g m r c l, dpCb bc 33 [.slice (some ⟨b2, 0, none⟩) N0 c2], dpGv l2, dpSmG 4 plc (some ⟨b2, 0, none⟩) N0 c2 l2, dpGv l1, dpSmG 4 plc (some ⟨b1, 0, none⟩) N0 c1 l1])
      (fun j W W' ⟨l, h1, h2⟩ hc => ⟨l, h1.cxl hc hdl, h2.cx hc hB⟩) (fun c' W W' ⟨h0, h1, j, l, h2, h3, h4, h5⟩ hc => ⟨h0, h1, j, l, h2, h3, h4.cxl hc hdl, h5.cx hc hB⟩) ⟨l, hMl, hFl⟩ ?_ ?_ ?_
    · clear hMl hFl l
      rintro l' j ⟨j', ⟨⟨p1, p2⟩, v⟩⟩ Wb W hj hl' hlp ⟨l, hMb, hFb⟩ hItb hEb ⟨e1, ⟨q, hq, e2, hLv⟩, hvn, hOv⟩
      obtain ⟨⟨q1, q2⟩, qv⟩ := q
      dsimp only at e1 e2 hLv hvn hOv
      cases e2
      subst e1
      obtain ⟨u, hu⟩ : ∃ u, l1[j']? = some u := ⟨_, List.getElem?_eq_getElem (by rw [hp1.len]; exact hj)⟩
      have heq := hp1.at_ hp2 hu hq
      obtain ⟨⟨u1, u2⟩, uv⟩ := u
      obtain ⟨ek, ev⟩ := heq
      dsimp only at ek ev
      cases ek
      have hlu : ∀ W1, Ext Wb W1 → LI W1.heap (ival uv) uv ∧ uv.m.n ≤ 16384 := fun W1 h => ⟨((Fr.gv (l := l1) hFb (by repeat (first | exact memH | apply memT)) _ (List.mem_of_getElem? hu)).1).ext h, (Fr.gv (l := l1) hFb (by repeat (first | exact memH | apply memT)) _ (List.mem_of_getElem? hu)).2⟩
      have hir : (0 ≤ p1 ∧ p1 < (r : Int)) ∧ (0 ≤ p2 ∧ p2 < (c : Int)) := hZi (p1, p2) (by
        rw [← hp2.val]
        exact (hp2.nz.keys _).1 (List.mem_map_of_mem (List.mem_of_getElem? hq)))
      rw [← ev] at hLv
      obtain ⟨vs, ⟨vA, vn, vc, vl⟩⟩ := v
      dsimp only at hvn hOv
      have hF := Fr.refl W
      repeat' (first | (refine TL.isOp ?_; first | (apply TL.ev; (case hd => rfl); (case h => (first | exact ev_simple rfl))) | (refine TL.storeAFr hF rfl rfl rfl rfl (by refine ⟨?_, ?_⟩; (focus (repeat (first | apply SetV.head | apply SetV.tail))); rfl) rfl ?_; clear hF; intro ws hF) | (refine TL.allocFr hF (d := 15) rfl rfl ?_; clear hF; intro w15 b15 hF)) | (refine G.is ?_; first | refine G.nextI ?_) | refine TL.nil ?_ | (refine TI.is ?_; first | refine TI.seq ?_ | refine TI.region rfl ?_))
      have hE1 := hF.ext
      have hb15 := (hF.lo (b := b15) (by repeat (first | exact InV.head | apply InV.tail))).resolve_right id
      have hV15 : Vr _ b15 46 [.int .i64 p1, .int .i64 p2, .bool vs, .slice vA vn vc] := hF.var (b := b15) (by repeat (first | exact InV.head | apply InV.tail))
      refine G.begunK (KeepO.ext hE1) fun w2 hc2 hl2 => ?_
      have hF2 := (Fr.newGe (Fr.addLI (Fr.addOw (lo := Wb.heap.size) hFb hEb hOv (Nat.le_refl _)) hLv) hb15 hV15 hE1).cx hc2 hB
      clear hF hV15
      have hG2 := Fr.grd' hF2 (g := g) (m := m) (l := l) (by repeat (first | exact memH | apply memT))
      obtain ⟨es, kk, hmp, _⟩ := hG2.mp
      have hO2 := Fr.ow hF2 (lo := Wb.heap.size) (t := 91) (A := vA) (n := vn) (c := vc) (l := vl) (by repeat (first | exact memH | apply memT))
      have hwb := hFb.exs.size
      have hml := (Fr.grd' hFb (g := g) (m := m) (l := l) (by repeat (first | exact memH | apply memT))).lts.2
      have hT : ∀ k, (k = m ∨ vA = some ⟨k, 0, none⟩) → w.heap.size ≤ k ∧ ∃ o : Obj, w2.heap[k]? = some o ∧ keepsObj o = true := fun k hk => by
        rcases hk with rfl | hk
        · exact ⟨hm, _, hmp, rfl⟩
        · obtain ⟨o, h1, h2⟩ := Ow.cells hO2 hk
          exact ⟨Nat.le_trans hwb (hO2.lo' hk), o, h1, keepsObj_of h2⟩
      obtain ⟨hO, hF⟩ := Fr.openT hF2 _ hT
      clear hF2 hG2 hmp hT
      replace hF := hF.weak (List.Sublist.refl _) (D := [dpGr g m r c l, dpCb bc 33 [.slice (some ⟨b2, 0, none⟩) N0 c2], dpGv l2, dpSmG 4 plc (some ⟨b2, 0, none⟩) N0 c2 l2, dpGv l1, dpSmG 4 plc (some ⟨b1, 0, none⟩) N0 c1 l1, dpLI (ival uv) ⟨vs, ⟨vA, vn, vc, vl⟩⟩, dpOw Wb.heap.size 91 vA vn vc vl]) (allH (by repeat (first | exact memH | apply memT)) (allH (by repeat (first | exact memH | apply memT)) (allH (by repeat (first | exact memH | apply memT)) (allH (by repeat (first | exact memH | apply memT)) (allH (by repeat (first | exact memH | apply memT)) (allH (by repeat (first | exact memH | apply memT)) (allH (by repeat (first | exact memH | apply memT)) (allH (by repeat (first | exact memH | apply memT)) allN))))))))
      have hfr2 : ∀ x ∈ [dpCb bc 33 [.slice (some ⟨b2, 0, none⟩) N0 c2], dpGv l2, dpSmG 4 plc (some ⟨b2, 0, none⟩) N0 c2 l2, dpGv l1, dpSmG 4 plc (some ⟨b1, 0, none⟩) N0 c1 l1, dpLI (ival uv) ⟨vs, ⟨vA, vn, vc, vl⟩⟩, dpOw Wb.heap.size 91 vA vn vc vl], ¬ x.fp m := nfC (nf_cb hbcm) (nfC nf_gv (nfC (nf_smG fun ⟨_, o, e⟩ => hb2m (by cases e; rfl)) (nfC nf_gv (nfC (nf_smG fun ⟨_, o, e⟩ => hb1m (by cases e; rfl)) (nfC nf_li (nfC (nf_ow fun k hk e => by have := hO2.lo' hk; omega) nfN))))))
      have hlw : ∀ w3, Ext w2 w3 → True := fun _ _ => trivial
      obtain ⟨us, ⟨uA, un, uc, ul⟩⟩ := uv
      repeat' (first | (refine TL.isOp ?_; first | (refine TL.isG ?_; first | refine TL.grun rfl rfl rfl ?_) | (refine TL.isCall ?_; refine TL.call rfl rfl ?_; first | (refine (alikeL _ ⟨vs, ⟨vA, vn, vc, vl⟩⟩ ⟨us, ⟨uA, un, uc, ul⟩⟩ (Fr.li hF (by repeat (first | exact memH | apply memT))) ((Fr.gv (l := l1) hF (by repeat (first | exact memH | apply memT)) _ (List.mem_of_getElem? hu)).1) (Nat.le_trans hvn (by omega)) (Nat.le_trans (Fr.gv (l := l1) hF (by repeat (first | exact memH | apply memT)) _ (List.mem_of_getElem? hu)).2 (by omega))).mono ?_; rintro _ wc ⟨rfl, hE⟩; replace hF := hF.exts hE; clear hE; refine Back.mk ?_))) | (refine TF.is ?_; first | refine TF.nil ?_ | refine TF.e rfl ?_ | (refine TF.pick rfl ?_; first | (refine TFo.cmpG rfl rfl rfl rfl (fun hc => ?_) (fun hc => ?_) <;> (try (first | (exfalso; omega) | exact absurd rfl hc))) | (refine TFo.cmpGg rfl rfl rfl rfl rfl rfl rfl (fun hc => ?_) (fun hc => ?_) <;> (try (first | (exfalso; omega) | exact absurd rfl hc))) | (apply TFo.ev; (case hd => rfl); (case h => (intro wh hF; first | exact ev_simple rfl | (apply Ev.isLoad; first | exact ev_loadFr hF rfl (by refine ⟨?_, ?_⟩; (focus (repeat (first | exact InV.head | apply InV.tail))); rfl)) | exact ev_len rfl))) | (apply TFo.evg rfl rfl rfl; (case hd => rfl); (case h => (intro wh hF; first | exact ev_simple rfl | (apply Ev.isLoad; first | exact ev_loadFr hF rfl (by refine ⟨?_, ?_⟩; (focus (repeat (first | exact InV.head | apply InV.tail))); rfl) | exact ev_loadAFr hF rfl (by refine ⟨?_, ?_⟩; (focus (repeat (first | exact InV.head | apply InV.tail))); rfl) | exact ev_loadMF rfl (Fr.smG hF (l := l1) (by repeat (first | exact memH | apply memT))) hu rfl | exact ev_loadMS rfl (Fr.smG hF (l := l1) (by repeat (first | exact memH | apply memT))) hu rfl) | exact ev_fieldAddr rfl | exact ev_fieldAddrE rfl rfl | exact ev_indexM rfl rfl hj (Fr.smG hF (l := l1) (by repeat (first | exact memH | apply memT))).some))))) | (refine G.is ?_; first | refine G.nextI ?_ | refine G.only ?_ | refine G.tree rfl (by first | exact hF | exact hF.weak (List.sublist_append_right _ _) (by repeat (first | exact allR | apply allT)) | exact hF.weak (by repeat (first | exact List.Sublist.refl _ | apply List.Sublist.cons)) (by repeat (first | exact allR | apply allT)) | exact hF.weak (by repeat (first | exact List.Sublist.refl _ | apply List.Sublist.cons)) (by repeat (first | exact allN | refine allH (by repeat (first | exact memH | apply memT)) ?_))) ?_) | refine TL.nil ?_ | (refine TI.is ?_; first | refine TI.seqM 23 rfl ?_ | refine TI.block ?_ | refine TI.cond_f rfl ?_ | refine TI.skip ?_ | (refine TI.regionFr hF 21 40 (.s 0 (.s 1 (.s 2 (.s 3 (.s 4 (.s 5 (.s 6 (.s 7 (.s 8 (.s 9 (.s 10 (.s 11 (.s 12 (.s 13 (.s 14 (.s 15 (.s 16 (.s 17 (.s 18 (.s 19 (.s 20 (.s 21 (.s 22 (.s 23 (.s 24 (.s 25 (.s 26 (.s 27 (.s 28 (.s 29 (.s 30 (.s 31 (.s 32 (.s 33 (.s 34 (.s 35 (.s 36 (.e 37 (.s 38 (.s 39 .nil)))))))))))))))))))))))))))))))))))))))) mixed (by kernel_rfl) rfl ?_; clear hF; intro wr hF)))
      have hset := fun w1 (hG : Gr w1.heap g m r c l) => gset_zero w1 g m r c l p1 p2 iv0 hG hir (iv0_gi _) (by decide) rfl
      repeat' (first | (refine TL.isOp ?_; first | (refine TL.isG ?_; first | refine TL.grun rfl rfl rfl ?_ | refine TL.gskip rfl rfl rfl rfl ?_) | (refine TL.isCall ?_; refine TL.call rfl rfl ?_; first | (refine (hset _ (Fr.grd' hF (by repeat (first | exact memH | apply memT)))).mono ?_; rintro _ wq ⟨rfl, hE, hG⟩; replace hF := Fr.callGr hF hE (.inr (.inr (.inl rfl))) hfr2 hG; clear hE hG; refine Back.mk ?_) | (refine (spoilO _ ⟨vs, ⟨vA, vn, vc, vl⟩⟩ Wb.heap.size (Fr.ow hF (by repeat (first | exact memH | apply memT))) (Nat.le_trans hvn (by omega))).mono ?_; rintro _ w4 ⟨rfl, hX⟩; have hF3 := hF; replace hF := Fr.restart hF (lo := Wb.heap.size) (t := 91) (A := vA) (n := vn) (c := vc) (l := vl) (by repeat (first | exact memH | apply memT)) hX; refine Back.mk ?_)) | (refine TL.isBin ?_; refine TL.cmpG rfl rfl rfl rfl (fun hc => ?_) (fun hc => ?_) <;> (try (first | (exfalso; omega) | exact absurd rfl hc))) | (apply TL.ev; (case hd => rfl); (case h => (first | exact ev_simple rfl | (apply Ev.isBin; first | exact ev_arN rfl rfl rfl (by omega)) | (apply Ev.isLoad; first | exact ev_loadFr hF rfl (by refine ⟨?_, ?_⟩; (focus (repeat (first | exact InV.head | apply InV.tail))); rfl) | exact ev_loadAFr hF rfl (by refine ⟨?_, ?_⟩; (focus (repeat (first | exact InV.head | apply InV.tail))); rfl)) | exact ev_fieldAddr rfl | exact ev_buildX rfl rfl))) | (refine TL.storeFr hF rfl rfl rfl rfl (by refine ⟨?_, ?_⟩; (focus (repeat (first | apply SetV.head | apply SetV.tail))); rfl) rfl ?_; clear hF; intro ws hF)) | (refine G.is ?_; first | refine G.nextI ?_ | refine G.blockN ?_ | refine G.blockE' rfl ?_) | refine TL.nil ?_ | (refine TI.is ?_; first | refine TI.seq ?_ | refine TI.region rfl ?_ | refine TI.cond_t rfl ?_ | refine TI.cond_f rfl ?_ | refine TI.exit ?_ | refine TI.skip ?_))
      all_goals
        have hfin := Fr.round (m := m) hFb (by intro v hv; repeat (first | (rcases List.mem_cons.1 hv with rfl | hv; · rfl) | cases hv)) hfr (Ext.trans hEb hE1) hc2 hO hF3 (Nat.le_trans hEb.size hb15) rfl rfl (Fr.ow hF3 (lo := Wb.heap.size) (t := 91) (A := vA) (n := vn) (c := vc) (l := vl) (by repeat (first | exact memH | apply memT))) (fun p hp => (del_sub l (p1, p2)).subset hp) hX hF rfl
        have hM5 := ((hMb.ext (Ext.trans hEb hE1)).cxl hc2 hdl).keep hfin.1
        first
          | exact G.roundK hfin.1 ⟨⟨_, hM5, hfin.2⟩, Fr.allIt hfin.2 (by repeat (first | exact memH | apply memT)) (by repeat (first | exact memH | apply memT)) (by repeat (first | exact memH | apply memT))⟩
          | exact G.exitK hfin.1 ⟨rfl, by omega, j' + 1, _, by omega, by omega, hM5, hfin.2⟩
    · clear hMl hFl l
      rintro D w' hD hDw ⟨l, hMn, hFn⟩ _
      have hM2 : Marks (D :: ds) w' := hMn.cons hDw fun E hE => Nat.lt_of_lt_of_le (hdl E hE) hD
      have hds2 : ∀ E ∈ D :: ds, w.heap.size ≤ E := fun E hE => by
        rcases List.mem_cons.1 hE with rfl | hE
        · exact Nat.le_trans hB hD
        · exact hds E hE
      obtain ⟨S, hO, hF⟩ := hFn.open
      clear hFn hMn
      repeat' (first | (refine TL.isOp ?_; first | (refine TL.isG ?_; first | refine TL.gskip rfl rfl rfl rfl ?_ | refine TL.gskipU rfl rfl rfl ?_) | (refine TL.isBin ?_; refine TL.cmpG rfl rfl rfl rfl (fun hc => ?_) (fun hc => ?_) <;> (try (first | (exfalso; omega) | exact absurd rfl hc))) | (apply TL.ev; (case hd => rfl); (case h => (first | exact ev_simple rfl | (apply Ev.isBin; first | exact ev_arN rfl rfl rfl (by omega)) | (apply Ev.isLoad; first | exact ev_loadFr hF rfl (by refine ⟨?_, ?_⟩; (focus (repeat (first | exact InV.head | apply InV.tail))); rfl)) | exact ev_len rfl))) | (refine TL.storeFr hF rfl rfl rfl rfl (by refine ⟨?_, ?_⟩; (focus (repeat (first | apply SetV.head | apply SetV.tail))); rfl) rfl ?_; clear hF; intro ws hF) | (refine TL.allocFr hF (d := 12) rfl rfl ?_; clear hF; intro w12 b12 hF)) | (refine G.is ?_; first | refine G.nextI ?_ | refine G.blockN ?_) | refine TL.nil ?_ | (refine TI.is ?_; first | refine TI.seq ?_ | refine TI.region rfl ?_ | refine TI.cond_f rfl ?_ | refine TI.skip ?_))
      all_goals exact G.againM (rd + 1, b12, l, D :: ds) rfl (by repeat (first | exact Sub.nil _ | refine Sub.cons rfl ?_ | refine Sub.cons' rfl (int_congr (by omega)) ?_)) ⟨hr3, hM2.keep (KeepO.of (Fr.others hO hF)), hds2, (Fr.shut hO hF).weak (by repeat (first | exact List.Sublist.refl _ | apply List.Sublist.cons_cons | apply List.Sublist.cons)) allR⟩ (by dsimp only; omega)
    · clear hMl hFl l
      rintro D c' w' hD hDw ⟨rfl, h1, j, l, h2, h3, hMn, hFn⟩
      have hM2 : Marks (D :: ds) w' := hMn.cons hDw fun E hE => Nat.lt_of_lt_of_le (hdl E hE) hD
      have hds2 : ∀ E ∈ D :: ds, w.heap.size ≤ E := fun E hE => by
        rcases List.mem_cons.1 hE with rfl | hE
        · exact Nat.le_trans hB hD
        · exact hds E hE
      obtain ⟨S, hO, hF⟩ := hFn.open
      clear hFn hMn
      repeat' (first | (refine TL.isOp ?_; first | (refine TL.isG ?_; first | refine TL.grun rfl rfl rfl ?_ | refine TL.gskip rfl rfl rfl rfl ?_ | refine TL.gskipU rfl rfl rfl ?_) | (refine TL.isBin ?_; refine TL.cmpG rfl rfl rfl rfl (fun hc => ?_) (fun hc => ?_) <;> (try (first | (exfalso; omega) | exact absurd rfl hc))) | (apply TL.ev; (case hd => rfl); (case h => (first | exact ev_simple rfl | (apply Ev.isBin; first | exact ev_arN rfl rfl rfl (by omega)) | (apply Ev.isLoad; first | exact ev_loadFr hF rfl (by refine ⟨?_, ?_⟩; (focus (repeat (first | exact InV.head | apply InV.tail))); rfl)) | exact ev_len rfl))) | (refine TL.storeFr hF rfl rfl rfl rfl (by refine ⟨?_, ?_⟩; (focus (repeat (first | apply SetV.head | apply SetV.tail))); rfl) rfl ?_; clear hF; intro ws hF) | (refine TL.allocFr hF (d := 12) rfl rfl ?_; clear hF; intro w12 b12 hF)) | (refine G.is ?_; first | refine G.nextI ?_ | refine G.blockN ?_ | refine G.blockE ?_) | refine TL.nil ?_ | (refine TI.is ?_; first | refine TI.seq ?_ | refine TI.region rfl ?_ | refine TI.cond_f rfl ?_ | refine TI.exit ?_ | refine TI.skip ?_))
      all_goals exact G.againM (rd + 1, b12, l, D :: ds) rfl (by repeat (first | exact Sub.nil _ | refine Sub.cons rfl ?_ | refine Sub.cons' rfl (int_congr (by omega)) ?_)) ⟨hr3, hM2.keep (KeepO.of (Fr.others hO hF)), hds2, (Fr.shut hO hF).weak (by repeat (first | exact List.Sublist.refl _ | apply List.Sublist.cons_cons | apply List.Sublist.cons)) allR⟩ (by dsimp only; omega)
  · obtain rfl : rd = 3 := by omega
    repeat' (first | (refine TL.isOp ?_; first | (refine TL.isBin ?_; refine TL.cmpG rfl rfl rfl rfl (fun hc => ?_) (fun hc => ?_) <;> (try (first | (exfalso; omega) | exact absurd rfl hc))) | (apply TL.ev; (case hd => rfl); (case h => (first | (apply Ev.isLoad; first | exact ev_loadFr hF rfl (by refine ⟨?_, ?_⟩; (focus (repeat (first | exact InV.head | apply InV.tail))); rfl))))) | (refine TL.storeFr hF rfl rfl rfl rfl (by refine ⟨?_, ?_⟩; (focus (repeat (first | apply SetV.head | apply SetV.tail))); rfl) rfl ?_; clear hF; intro ws hF)) | (refine G.is ?_; first | refine G.nextI ?_ | refine G.blockE ?_ | refine G.thenE ?_) | refine TL.nil ?_ | (refine TI.is ?_; first | refine TI.seq ?_ | refine TI.region rfl ?_ | refine TI.cond_f rfl ?_ | refine TI.exit ?_ | refine TI.ret ?_))
    have hM' := hM.keep (KeepO.of (Fr.others hO hF))
    have hFs := (Fr.shut hO hF).cx (hM'.cx hds) (Nat.le_refl _)
    exact G.retMsC1 rfl rfl hM' (held_one (hFs.var (b := b6) (by repeat (first | exact InV.head | apply InV.tail)))) ⟨rfl, hFs.ext⟩
theorem rgs_t (w : World) (x : MV) (hx : RM w.heap x 1048576 ∧ InR x) (z : Int) (hz1 : -9223372036854775808 ≤ z) (hz2 : z < 9223372036854775808) (A : Option Addr) (n k : Nat) (L : List CV) (hs : Sm 5 cvc w.heap w.heap.size A n k L) (hg : ∀ s ∈ L, CG w.heap s) (hb : wts cvw L ≤ 1048576 ∧ n ≤ 1048576) :
    Cl Try.prog 3 #[.agg (mvc x).toArray, .int .i64 z, .slice A n k] w (YesM w) := by
  by_cases h : ∃ r c, Sound x r c
  · obtain ⟨r, c, h⟩ := h
    have gx := hx.1.gm h
    by_cases h2 : ∃ y ∈ x.l, big y
    · exact rgs_large w x r c gx h2 z A n k
    · exact rgs_on w x r c gx (fun y hy h => h2 ⟨y, hy, h⟩) z A n k L hs hg (fun s hs => Nat.le_trans (wts_mem (wt := cvw) hs) hb.1) hb.2
  · exact rgs_bad w x hx h z A n k
end Go.Proofs.Ytlpheckjogphmaa
