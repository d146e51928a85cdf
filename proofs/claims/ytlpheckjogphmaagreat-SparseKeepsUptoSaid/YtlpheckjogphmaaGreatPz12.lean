/- Layer 10: the law SparseDense. Layer 10: the law's own, and its dense with new words in new blocks. Layer 10: the law's kept and apart: lists of places with memory of their own. Layer 10, the law SparseKeeps: frames over words written over, the book as a fact. Layer 10, the law SparseKeeps: copies of integers. -/
import Derived.Test.YtlpheckjogphmaaGreatPz11
set_option maxHeartbeats 16000000
set_option linter.unusedVariables false
set_option linter.unusedSimpArgs false
set_option linter.unusedSectionVars false
namespace Go.Eng
open Go Go.Proofs Go.NatM Go.RowKit Go.Proofs.YtlpheckjogphmaaGreat
theorem LM.smaller {H : Array Obj} {x : MV} {r c K : Nat} {F : Nat → Nat → Int} (h : LM H x r c F K) (hb : ∀ i j, i < r → j < c → ¬ bigZ (F i j)) : LM H x r c F 16384 := ⟨h.sh, h.s, fun i j hi hj => ⟨(h.g i j hi hj).1, by
  have h1 := (h.g i j hi hj).1
  refine LI.few (x := x.l.getD (i * c + j) default) (H := H) ?_ fun hbig => hb i j hi hj ?_
  · rw [h1.val]; exact h1
  · rw [← h1.val]; exact (big_iff _).1 hbig⟩⟩
theorem gm_bigs {H : Array Obj} {x : MV} {r c K : Nat} (gx : GM H x r c K) (hb : ∃ y ∈ x.l, big y) : ∃ i j, i < r ∧ j < c ∧ bigZ (ent x c i j) := by
  obtain ⟨y, hy, hb⟩ := hb
  have hl := gx.s.len
  have hn := gx.sh.n
  obtain ⟨q, hq⟩ := List.mem_iff_getElem?.1 hy
  have hqn : q < r * c := by have := (List.getElem?_eq_some_iff.1 hq).1; omega
  have hc : 0 < c := Nat.pos_of_ne_zero fun e => by rw [e, Nat.mul_zero] at hqn; omega
  refine ⟨q / c, q % c, (Nat.div_lt_iff_lt_mul hc).2 hqn, Nat.mod_lt q hc, ?_⟩
  unfold ent
  have e : q / c * c + q % c = q := by rw [Nat.mul_comm]; exact Nat.div_add_mod q c
  have e2 : x.l.getD q default = y := by simp [List.getD, hq]
  rw [e, e2]
  exact (big_iff y).1 hb
theorem gm_small {H : Array Obj} {x : MV} {r c K : Nat} (gx : GM H x r c K) (hb : ∀ y ∈ x.l, ¬ big y) : ∀ i j, i < r → j < c → ¬ bigZ (ent x c i j) := fun i j hi hj h => by
  have hl := gx.s.len
  have hn := gx.sh.n
  have hlt := place_lt hi hj
  have e : x.l[i * c + j]? = some (x.l.getD (i * c + j) default) := by simp [List.getD, show i * c + j < x.l.length by omega]
  exact hb _ (List.mem_of_getElem? e) ((big_iff _).2 h)
theorem chZ_set {Z : ZF} {a : CV} (hk : a.k = 5) : chZ Z a = updZ Z (a.i, a.j) (ival a.v) := by unfold chZ; rw [if_pos hk]
theorem chZ_row {Z : ZF} {a : CV} (hk : a.k = 6) : chZ Z a = rowF Z a.i a.j (ival a.v) := by unfold chZ; rw [if_neg (by omega), if_neg (by omega), if_pos hk]
end Go.Eng
namespace Go.Proofs.YtlpheckjogphmaaGreat
open Go Go.Eng Go.Proofs Go.NatM Go.RowKit
end Go.Proofs.YtlpheckjogphmaaGreat
set_option linter.unusedSectionVars false
namespace Go.Eng
open Go Go.Proofs Go.NatM Go.RowKit Go.Proofs.YtlpheckjogphmaaGreat
theorem LM.ofB {H : Array Obj} {r c K b : Nat} {l : List IV} {F : Nat → Nat → Int} (hr : r ≤ 64) (hc : c ≤ 64) (hV : Vr H b 27 (l.flatMap ivc)) (hl : l.length = r * c) (h : ∀ i j, i < r → j < c → LI H (F i j) (l.getD (i * c + j) default) ∧ (l.getD (i * c + j) default).m.n ≤ K) : LM H ⟨(r : Int), (c : Int), some ⟨b, 0, none⟩, r * c, r * c, l⟩ r c F K :=
  ⟨⟨rfl, rfl, hr, hc, rfl⟩, vr_sm (zs := []) (by omega) (fun _ _ => rfl) (by rw [List.append_nil]; exact hV) hl (Nat.le_refl _) hV.lt, h⟩
theorem MF.ofB {w : World} {b : Nat} {x : MV} (e : x.A = some ⟨b, 0, none⟩) (hb : w.heap.size ≤ b) : MF w x := .inr ⟨b, e, hb⟩
theorem OwL.nw {H : Array Obj} {lo lo' : Nat} {l : List IV} (h : OwL H lo l) (hl : lo' ≤ lo) : NwL lo' l := fun q hq => by
  have h1 := h.1 (l.getD q default) (by simp [List.getD, hq])
  exact (Nw.of h1).mono hl
theorem Ext.updN {w w1 w2 : World} {b : Nat} (hE : Ext w w1) (hU : Upd b w1 w2) (hb : w.heap.size ≤ b) : Ext w w2 :=
  Exs.ext0 ((Exs.of hE).then hU.exs fun i hi e => by omega)
end Go.Eng
namespace Go.Proofs.YtlpheckjogphmaaGreat
open Go Go.Eng Go.Proofs Go.NatM Go.RowKit
def RetOwn (w : World) (x : IV) (e : Ending) (w' : World) : Prop := ∃ g, e = .returned (ivA ⟨x.neg, ⟨some ⟨g, 0, none⟩, x.m.n, x.m.n, x.m.l⟩⟩) ∧ Ow u64v w'.heap w.heap.size 64 (some ⟨g, 0, none⟩) x.m.n x.m.n x.m.l ∧ Ext w w'
theorem ownS (w : World) (x : IV) (gx : GI w.heap x) (hx : x.m.n ≤ 1099511627776) : Cl Tryz.prog 7 #[ivA x] w (RetOwn w x) := by
  have hs := gx.s
  have hln := hs.len
  obtain ⟨xs, ⟨xA, xn, xc, xl⟩⟩ := x
  dsimp only at hs hx hln
  refine enter Tryz.func7 rfl rfl rfl ?_
  have hF := Fr.refl w
  have hl : (List.replicate xn 0).take 0 ++ xl.take (min xn xn) ++ (List.replicate xn 0).drop (0 + min xn xn) = xl := by
    rw [Nat.min_self, List.take_of_length_le (Nat.le_of_eq hln), List.drop_of_length_le (by rw [List.length_replicate]; omega)]; simp
  repeat' (first | (refine TL.isOp ?_; first | (apply TL.ev; (case hd => rfl); (case h => (first | exact ev_simple rfl | (apply Ev.isLoad; first | exact ev_loadFr hF rfl (by refine ⟨?_, ?_⟩; (focus (repeat (first | exact InV.head | apply InV.tail))); rfl)) | exact ev_len rfl | exact ev_fieldAddr rfl | exact ev_buildX rfl rfl))) | (refine TL.storeAFr hF rfl rfl rfl rfl (by refine ⟨?_, ?_⟩; (focus (repeat (first | apply SetV.head | apply SetV.tail))); rfl) rfl ?_; clear hF; intro ws hF) | (refine TL.boxAFr hF (d := 1) (cs := [.bool xs, .slice xA xn xc]) rfl rfl ?_; clear hF; intro w1 b1 hF) | (refine TL.allocFr hF (d := 2) rfl rfl ?_; clear hF; intro w2 b2 hF) | (refine TL.make u64v 0 (d := 7) rfl rfl rfl rfl rfl (Nat.le_refl _) (by omega) ?_; intro w7 b7 eb hB hE hz; have hF0 := hF; have hb7 := hF.exs.size; replace hF := hF.exts hE) | (refine TL.copy (f := u64v) (fun _ => rfl) rfl rfl rfl hB (hs.ext hF.ext) (by simp) (fun w11 hB2 hU => ?_); rw [hl] at hB2; have hEu := Ext.updN hE hU (Nat.le_of_eq eb.symm); have hO := hB2.ow (k := xn) (c := xn) (by omega) (by omega) (by rw [hln]; exact Nat.le_trans hx (by decide)) (Nat.le_of_eq eb.symm); rw [List.take_of_length_le (by omega)] at hO; replace hF := Fr.addOw (lo := w.heap.size) hF0 hEu hO hb7; clear hE hB hU hO hB2 hEu hF0 eb)) | (refine T.is ?_; first | refine T.seq ?_ | refine T.region ?_ | refine T.ret ?_) | (refine G.is ?_; first | refine G.next ?_) | refine TL.nil ?_)
  exact G.retC1 rfl rfl (held_agg (hF.var (b := b2) (by repeat (first | exact InV.head | apply InV.tail))) rfl) ⟨b7, rfl, Fr.ow hF (by repeat (first | exact memH | apply memT)), hF.ext⟩
def RetDYN (w : World) (r c : Nat) (Z : ZF) (e : Ending) (w' : World) : Prop := ∃ z : MV, e = .returned (.tuple #[.agg (mvc z).toArray, .bool true]) ∧ LM w'.heap z r c (natF Z) 8388608 ∧ Ext w w' ∧ MF w z ∧ NwL w.heap.size z.l
set_option maxRecDepth 100000 in
theorem dense_rowP (w : World) (x : MV) (r c : Nat) (Z : ZF) (hx : LM w.heap x r c (natF Z) 2097152) (a : CV) (ha : CG w.heap a) (hv : a.v.m.n ≤ 1048576) (hk : a.k = 6) (hi : 0 ≤ a.i ∧ a.i < (r : Int)) (hj : 0 ≤ a.j ∧ a.j < (r : Int)) :
    Cl Tryz.prog 14 #[.agg (mvc x).toArray, .agg (cvc a).toArray] w (RetDYN w r c (chZ Z a)) := by
  have hmu := fun (u : MV) w1 (hE : Ext w w1) (K : Nat) (F : Nat → Nat → Int) (hu : LM w1.heap u r r F K) (hK : K ≤ 1099511627780) => mmulP w1 u x r r c K 2097152 hu.gm (hx.ext hE).gm (by omega) (by omega)
  have hent := fun p q (hp : p < r) (hq : q < c) => hx.ent hp hq
  have hs := hx.sh
  unfold chZ
  rw [if_neg (by omega), if_neg (by omega), if_pos hk]
  clear hx
  have hr := hs.r64
  have hcc := hs.c64
  have hr1 := hs.er
  have gv := ha.v
  clear ha
  obtain ⟨k, i, j, v⟩ := a
  dsimp only at hk hi hj hv gv ⊢
  subst hk
  obtain ⟨i, rfl⟩ : ∃ n : Nat, i = (n : Int) := ⟨i.toNat, by omega⟩
  obtain ⟨j, rfl⟩ : ∃ n : Nat, j = (n : Int) := ⟨j.toNat, by omega⟩
  have hi' : i < r := by omega
  have hj' : j < r := by omega
  have hun := fun w1 (hE : Ext w w1) => lunit w1 r i j v hr hi' hj' (gv.ext hE) (by omega)
  obtain ⟨vv, hvv⟩ : ∃ z, ival v = z := ⟨_, rfl⟩
  rw [hvv] at hun ⊢
  obtain ⟨xe, hxe⟩ : ∃ f, ent x c = f := ⟨_, rfl⟩
  rw [hxe] at hmu hent
  obtain ⟨xr, xc, A1, n1, k1, l1⟩ := x
  obtain ⟨vs, ⟨vA, vn, vc, vl⟩⟩ := v
  dsimp only at hr1 hmu hun hv
  subst hr1
  refine enter Tryz.func14 rfl rfl rfl ?_
  have hF := Fr.refl w
  repeat' (first | (refine TL.isOp ?_; first | (refine TL.isG ?_; first | refine TL.grun rfl rfl rfl ?_) | (refine TL.isCall ?_; refine TL.call rfl rfl ?_; first | (refine (hun _ hF.ext).mono ?_; rintro _ wu ⟨zu, rfl, hLu, hE, hf⟩; obtain ⟨Au, ku, lu, rfl⟩ := lm_mk hLu; rw [mvc_mk _ _ Au]; replace hF := Fr.addLM hF hE hLu hf; clear hE hf hLu; refine Back.mk ?_) | (refine (hmu ⟨r, r, Au, r * r, ku, lu⟩ _ hF.ext _ _ (Fr.lm hF (x := ⟨r, r, Au, r * r, ku, lu⟩) (by repeat (first | exact memH | apply memT))) (by (try dsimp only); omega)).mono ?_; rintro _ wu ⟨bp, lp, rfl, hVp, hlp, hLp, hE, hbp, hOp⟩; have hLm := LM.ofB hr hcc hVp hlp hLp; rw [mvc_mk _ _ (some ⟨bp, 0, none⟩)]; have hf := MF.ofB (x := ⟨r, c, some ⟨bp, 0, none⟩, r * c, r * c, lp⟩) rfl hbp; have hfp := hf.mono hF.ext.size; have hNp := OwL.nw hOp hF.ext.size; replace hF := Fr.addLM hF hE hLm hf; clear hE hf hLm hLp hVp hOp; refine Back.mk ?_)) | (refine TL.isBin ?_; refine TL.cmpG rfl rfl rfl rfl (fun hc => ?_) (fun hc => ?_) <;> (try (first | (exfalso; omega) | exact absurd rfl hc))) | (apply TL.ev; (case hd => rfl); (case h => (first | exact ev_simple rfl | (apply Ev.isLoad; first | exact ev_loadFr hF rfl (by refine ⟨?_, ?_⟩; (focus (repeat (first | exact InV.head | apply InV.tail))); rfl) | exact ev_loadAFr hF rfl (by refine ⟨?_, ?_⟩; (focus (repeat (first | exact InV.head | apply InV.tail))); rfl)) | exact ev_fieldAddr rfl))) | (refine TL.storeAFr hF rfl rfl rfl rfl (by refine ⟨?_, ?_⟩; (focus (repeat (first | apply SetV.head | apply SetV.tail))); rfl) rfl ?_; clear hF; intro ws hF) | (refine TL.boxAFr hF (d := 2) (cs := [.int .i64 (r : Int), .int .i64 xc, .slice A1 n1 k1]) rfl rfl ?_; clear hF; intro w2 b2 hF) | (refine TL.boxAFr hF (d := 3) (cs := [.int .i64 6, .int .i64 (i : Int), .int .i64 (j : Int), .bool vs, .slice vA vn vc]) rfl rfl ?_; clear hF; intro w3 b3 hF) | (refine TL.allocFr hF (d := 4) rfl rfl ?_; clear hF; intro w4 b4 hF) | (refine TL.allocFr hF (d := 10) rfl rfl ?_; clear hF; intro w10 b10 hF)) | (refine TF.is ?_; first | refine TF.nil ?_ | refine TF.e rfl ?_ | refine TF.alt ?_ ?_ | (refine TF.pick rfl ?_; first | (apply TFo.ev; (case hd => rfl); (case h => (intro wh hF; first | exact ev_simple rfl | (apply Ev.isLoad; first | exact ev_loadFr hF rfl (by refine ⟨?_, ?_⟩; (focus (repeat (first | exact InV.head | apply InV.tail))); rfl) | exact ev_loadAFr hF rfl (by refine ⟨?_, ?_⟩; (focus (repeat (first | exact InV.head | apply InV.tail))); rfl)) | exact ev_fieldAddr rfl))))) | (refine T.is ?_; first | refine T.seq ?_ | refine T.region ?_ | refine T.block ?_ | refine T.cond_t rfl ?_ | refine T.cond_f rfl ?_ | refine T.ret ?_ | refine T.skip ?_ | (refine T.regionFr hF 17 17 (.s 0 (.s 1 (.s 2 (.s 3 (.s 4 (.s 5 (.s 6 (.s 7 (.s 9 (.alt (.e 8 (.alt (.e 10 (.s 11 (.s 12 (.s 13 (.e 14 (.e 15 (.s 16 .nil))))))) (.e 14 (.e 10 (.s 11 (.s 12 (.s 13 (.e 15 (.s 16 .nil))))))))) (.e 14 (.e 8 (.e 10 (.s 11 (.s 12 (.s 13 (.e 15 (.s 16 .nil)))))))))))))))))) mixed (by kernel_rfl) ?_; clear hF; intro wr hF)) | (refine G.is ?_; first | refine G.next ?_ | refine G.blockN ?_ | refine G.thenR ?_ | refine G.only ?_ | refine G.tree rfl (by first | exact hF | exact hF.weak (List.sublist_append_right _ _) (by repeat (first | exact allR | apply allT)) | exact hF.weak (by repeat (first | exact List.Sublist.refl _ | apply List.Sublist.cons)) (by repeat (first | exact allR | apply allT)) | exact hF.weak (by repeat (first | exact List.Sublist.refl _ | apply List.Sublist.cons)) (by repeat (first | exact allN | refine allH (by repeat (first | exact memH | apply memT)) ?_))) ?_) | refine TL.nil ?_)
  all_goals
    refine G.retC2 rfl rfl rfl (held_agg (hF.var (b := b4) (by repeat (first | exact InV.head | apply InV.tail))) rfl) ⟨⟨r, c, some ⟨bp, 0, none⟩, r * c, r * c, lp⟩, rfl, LM.moreF (Fr.lm hF (x := ⟨r, c, some ⟨bp, 0, none⟩, r * c, r * c, lp⟩) (by repeat (first | exact memH | apply memT))) (by (try dsimp only); omega) fun p q hp hq => ?_, hF.ext, hfp, hNp⟩
    have hLu := Fr.lm hF (x := ⟨r, r, Au, r * r, ku, lu⟩) (by repeat (first | exact memH | apply memT))
    rw [psum_congr (g := fun t => unF i j vv p t * xe t q) (fun t ht => by rw [hLu.ent hp ht]), psum_unF (fun t => xe t q) hp hj', hent p q hp hq, hent j q hj' hq]
    unfold natF rowF
    by_cases e : p = i
    · subst e; rw [if_pos rfl, if_pos rfl]
    · rw [if_neg e, if_neg (by omega), Int.add_zero]
end Go.Proofs.YtlpheckjogphmaaGreat
set_option linter.unusedSectionVars false
namespace Go.Eng
open Go Go.Proofs Go.NatM Go.RowKit Go.Proofs.YtlpheckjogphmaaGreat
theorem putO_row : ∀ {l : GL} {k : Nat} {p : (Int × Int) × IV} (v : Int) (zs : List Value), l[k]? = some p → putO (l.flatMap plc ++ zs) (k * 4) [.int .i64 v] = some ((l.set k ((v, p.1.2), p.2)).flatMap plc ++ zs)
  | [], k, p, v, zs, h => by simp at h
  | q :: l, 0, p, v, zs, h => by
    simp only [List.getElem?_cons_zero, Option.some.injEq] at h
    subst h
    simp [plc, putO]
  | q :: l, k + 1, p, v, zs, h => by
    simp only [List.getElem?_cons_succ] at h
    have ih := putO_row (l := l) v zs h
    have e : (k + 1) * 4 = k * 4 + 1 + 1 + 1 + 1 := by omega
    rw [e]
    simp only [List.flatMap_cons, plc, List.cons_append, List.nil_append, List.append_assoc, putO, List.set_cons_succ]
    rw [ih]
section
variable {P : Program} {N : Fm} {Q : Exit → Act → World → Prop} {σ : Go.Eng.Store} {S : Nat → Prop} {w0 w : World} {L : List VB} {D : List DP} {ops : Array Oper} {t : TypeId} {pos : String} {af : Array Edge} {rest : List Oper}
theorem TL.storeRow (hF : Fr w0 w L D S) {x y : Operand} {ty e : TypeId} {z : Value} {b1 : Nat} [hS : USize P ty z 1 b1] {b k : Nat} {l : GL} {p : (Int × Int) × IV} (v : Int) {L' : List VB}
    (hx : Go.Eng.look σ x = some (.pointer (elemA (some ⟨b, 0, none⟩) (k * 4 + 0)))) (hy : Go.Eng.look σ y = some (.int .i64 v)) (hk : l[k]? = some p)
    (hL : SetV L b e (l.flatMap plc) ((l.set k ((v, p.1.2), p.2)).flatMap plc) L') (K : ∀ w', Fr w0 w' L' D S → TL P N .seq ops Q rest σ w') : TL P N .seq ops Q (⟨none, .store ty x y, t, pos, af, none⟩ :: rest) σ w := by
  have hx' : Go.Eng.look σ x = some (.pointer (some ⟨b, k * 4, none⟩)) := by rw [hx]; unfold elemA; simp [add_mk]
  have h1 := putO_row v [] hk
  have h2 := plc_no l (zs := []) rfl
  rw [List.append_nil, List.append_nil] at h1
  rw [List.append_nil] at h2
  exact TL.storeFr hF hx' hy rfl rfl ⟨hL, h1⟩ h2 K
end
def Rws' (a : Int) (i : Nat) (l : GL) : Prop := ∀ j p, j < i → l[j]? = some p → p.1.1 = a + (j : Int)
theorem Rws'.zero (a : Int) (l : GL) : Rws' a 0 l := fun j _ h => absurd h (Nat.not_lt_zero _)
theorem Rws'.set {a : Int} {i : Nat} {l : GL} (h : Rws' a i l) (q : Int) (x : IV) : Rws' a (i + 1) (l.set i ((a + (i : Int), q), x)) := fun j p hj hp => by
  by_cases e : i = j
  · subst e
    have hi : i < l.length := by
      have := (List.getElem?_eq_some_iff.1 hp).1
      rwa [List.length_set] at this
    rw [List.getElem?_set_self hi] at hp
    cases hp; rfl
  · rw [List.getElem?_set_ne e] at hp
    exact h j p (by omega) hp
theorem Rws'.snoc {a : Int} {l : GL} (h : Rws' a l.length l) (q : Int) (x : IV) : Rws' a (l.length + 1) (l ++ [((a + (l.length : Int), q), x)]) := fun j p hj hp => by
  rcases Nat.lt_or_ge j l.length with e | e
  · rw [List.getElem?_append_left e] at hp
    exact h j p e hp
  · obtain rfl : j = l.length := by omega
    rw [List.getElem?_append_right (Nat.le_refl _), Nat.sub_self] at hp
    cases hp; rfl
theorem Fr.two {w : World} {t t' : TypeId} {p q : Nat} {cp cq : List Value} (hp : Vr w.heap p t cp) (hq : Vr w.heap q t' cq) (hne : p ≠ q) : Fr w w [⟨p, t, cp⟩, ⟨q, t', cq⟩] [] (fun k => k = p ∨ k = q) :=
  ⟨Exs.refl _ _, fun v hv => by
    simp only [List.mem_cons, List.not_mem_nil, or_false] at hv
    rcases hv with rfl | rfl
    · exact ⟨.inr (.inl rfl), hp⟩
    · exact ⟨.inr (.inr rfl), hq⟩, List.pairwise_cons.2 ⟨fun v hv => by rw [List.mem_singleton] at hv; subst hv; exact hne, List.pairwise_singleton _ _⟩, fun _ h => (by cases h), fun _ _ _ h => (by cases h)⟩
end Go.Eng
namespace Go.Proofs.YtlpheckjogphmaaGreat
open Go Go.Eng Go.Proofs Go.NatM Go.RowKit
theorem keptT (w : World) (A A' : Option Addr) (n c c' : Nat) (a : Int) (l l' : GL) (hs : Sm 4 plc w.heap w.heap.size A n c l) (hs' : Sm 4 plc w.heap w.heap.size A' (n + 80) c' l') (hn : n ≤ 1048576) (ha : 0 ≤ a ∧ a ≤ 4294967296) (h1 : Rws' a n l) (h2 : Rws' a (n + 80) l') :
    Cl Tryz.prog 54 #[.slice A n c, .slice A' (n + 80) c', .int .i64 a] w (YesM w) := by
  have la := hs.len
  have ld := hs'.len
  refine enter Tryz.func54 rfl rfl rfl ?_
  have hF := Fr.refl w
  repeat' (first | (refine TL.isOp ?_; first | (apply TL.ev; (case hd => rfl); (case h => (first | exact ev_simple rfl)))) | (refine T.is ?_; first | refine T.seq ?_ | refine T.region ?_ | refine T.block ?_) | (refine G.is ?_; first | refine G.next ?_) | refine TL.nil ?_)
  refine T.loop (α := Nat) (fun i => [(0, .slice A n c), (1, .slice A' (n + 80) c'), (2, .int .i64 a), (7, .int .i64 (i : Int))]) (fun i w' => i ≤ n + 80 ∧ Fr w w' [] []) (fun i => n + 80 - i) 0 (by repeat (first | exact Sub.nil _ | refine Sub.cons rfl ?_ | refine Sub.cons' rfl (int_congr (by omega)) ?_)) ⟨Nat.zero_le _, hF⟩ ?_
  clear hF
  rintro i w1 ⟨hi, hF⟩
  rcases Nat.lt_or_ge i (n + 80) with hin | hin
  · obtain ⟨q, hq⟩ : ∃ q, l'[i]? = some q := ⟨_, List.getElem?_eq_getElem (by omega)⟩
    have eq := h2 i q hin hq
    obtain ⟨⟨q1, q2⟩, z⟩ := q
    dsimp only at eq
    subst eq
    rcases Nat.lt_or_ge i n with hi2 | hi2
    · obtain ⟨p, hp⟩ : ∃ p, l[i]? = some p := ⟨_, List.getElem?_eq_getElem (by omega)⟩
      have ep := h1 i p hi2 hp
      obtain ⟨⟨p1, p2⟩, y⟩ := p
      dsimp only at ep
      subst ep
      clear h1 h2
      repeat' (first | (refine TL.isOp ?_; first | (refine TL.isG ?_; first | refine TL.grun rfl rfl rfl ?_) | (refine TL.isBin ?_; refine TL.cmpG rfl rfl rfl rfl (fun hc => ?_) (fun hc => ?_) <;> (try (first | (exfalso; omega) | exact absurd rfl hc))) | (apply TL.ev; (case hd => rfl); (case h => (first | exact ev_simple rfl | (apply Ev.isBin; first | exact ev_arN rfl rfl rfl (by omega) | exact ev_arI rfl rfl rfl (by omega)) | (apply Ev.isLoad; first | exact ev_loadMF rfl (hs.ext hF.ext) hp rfl | exact ev_loadMF rfl (hs'.ext hF.ext) hq rfl) | exact ev_len rfl | exact ev_fieldAddrE rfl (hs.some.resolve_left (by omega)) | exact ev_fieldAddrE rfl (hs'.some.resolve_left (by omega)) | exact ev_indexM rfl rfl hi2 (hs.ext hF.ext).some | exact ev_indexM rfl rfl hin (hs'.ext hF.ext).some)))) | (refine T.is ?_; first | refine T.seq ?_ | refine T.region ?_ | refine T.block ?_ | refine T.cond_t rfl ?_ | refine T.cond_f rfl ?_ | refine T.skip ?_) | (refine G.is ?_; first | refine G.next ?_ | refine G.blockN ?_) | refine TL.nil ?_)
      all_goals exact G.again (i + 1) (by repeat (first | exact Sub.nil _ | refine Sub.cons rfl ?_ | refine Sub.cons' rfl (int_congr (by omega)) ?_)) ⟨hin, hF⟩ (by omega)
    · clear h1 h2
      repeat' (first | (refine TL.isOp ?_; first | (refine TL.isG ?_; first | refine TL.grun rfl rfl rfl ?_ | refine TL.gskip rfl rfl rfl rfl ?_) | (refine TL.isBin ?_; refine TL.cmpG rfl rfl rfl rfl (fun hc => ?_) (fun hc => ?_) <;> (try (first | (exfalso; omega) | exact absurd rfl hc))) | (apply TL.ev; (case hd => rfl); (case h => (first | exact ev_simple rfl | (apply Ev.isBin; first | exact ev_arN rfl rfl rfl (by omega) | exact ev_arI rfl rfl rfl (by omega)) | (apply Ev.isLoad; first | exact ev_loadMF rfl (hs'.ext hF.ext) hq rfl) | exact ev_len rfl | exact ev_fieldAddrE rfl (hs'.some.resolve_left (by omega)) | exact ev_indexM rfl rfl hin (hs'.ext hF.ext).some)))) | (refine T.is ?_; first | refine T.seq ?_ | refine T.region ?_ | refine T.block ?_ | refine T.cond_t rfl ?_ | refine T.cond_f rfl ?_ | refine T.skip ?_) | (refine G.is ?_; first | refine G.next ?_ | refine G.blockN ?_) | refine TL.nil ?_)
      all_goals exact G.again (i + 1) (by repeat (first | exact Sub.nil _ | refine Sub.cons rfl ?_ | refine Sub.cons' rfl (int_congr (by omega)) ?_)) ⟨hin, hF⟩ (by omega)
  · obtain rfl : i = n + 80 := by omega
    repeat' (first | (refine TL.isOp ?_; first | (refine TL.isBin ?_; refine TL.cmpG rfl rfl rfl rfl (fun hc => ?_) (fun hc => ?_) <;> (try (first | (exfalso; omega) | exact absurd rfl hc))) | (apply TL.ev; (case hd => rfl); (case h => (first | exact ev_simple rfl | (apply Ev.isBin; first | exact ev_arN rfl rfl rfl (by omega)) | exact ev_len rfl)))) | (refine T.is ?_; first | refine T.seq ?_ | refine T.region ?_ | refine T.cond_f rfl ?_ | refine T.exit ?_ | refine T.ret ?_) | (refine G.is ?_; first | refine G.next ?_ | refine G.blockE ?_ | refine G.thenE ?_) | refine TL.nil ?_)
    exact G.ret1 rfl rfl ⟨rfl, hF.ext⟩
def fq (x : Option Addr × Nat × Nat) : Value := .slice x.1 x.2.1 x.2.2
set_option maxRecDepth 100000 in
theorem apartT (w : World) (bl bp bq Np Nq : Nat) (lp lq : GL) (hSl : Sl fq w.heap w.heap.size (some ⟨bl, 0, none⟩) 2 2 [(some ⟨bp, 0, none⟩, Np, Np), (some ⟨bq, 0, none⟩, Nq, Nq)]) (hlb : ∀ k, fpA (some ⟨bl, 0, none⟩) 2 k → ¬ (k = bp ∨ k = bq)) (hVp : Vr w.heap bp 57 (lp.flatMap plc)) (hVq : Vr w.heap bq 57 (lq.flatMap plc)) (hlp : lp.length = Np) (hlq : lq.length = Nq) (hN : Np ≤ 4096) (hM : Nq ≤ 4096) (hpq : bp ≠ bq) :
    Cl Tryz.prog 23 #[.slice (some ⟨bl, 0, none⟩) 2 2] w (fun e w' => e = .returned (.bool true) ∧ Exs (fun k => k = bp ∨ k = bq) w w') := by
  refine enter Tryz.func23 rfl rfl rfl ?_
  have hF := Fr.two hVp hVq hpq
  clear hVp hVq
  repeat' (first | (refine TL.isOp ?_; first | (apply TL.ev; (case hd => rfl); (case h => (first | exact ev_simple rfl | exact ev_len rfl))) | (refine TL.make fq (none, 0, 0) (d := 12) rfl rfl rfl rfl rfl (Nat.le_refl _) (by omega) ?_; intro w12 bg ebg hBg hEg hzg; replace hF : Fr w w12 [⟨bg, 46, [.slice none 0 0, .slice none 0 0]⟩, ⟨bp, 57, lp.flatMap plc⟩, ⟨bq, 57, lq.flatMap plc⟩] [] (fun k => k = bp ∨ k = bq) := hF.newGe (Nat.le_of_eq ebg.symm) (bk_vr hBg) hEg; clear ebg hBg hEg hzg)) | (refine T.is ?_; first | refine T.seq ?_ | refine T.region ?_ | refine T.block ?_) | (refine G.is ?_; first | refine G.next ?_) | refine TL.nil ?_)
  refine T.loop (α := Nat) (fun n => [(0, .slice (some ⟨bl, 0, none⟩) 2 2), (3, .slice (some ⟨bg, 0, none⟩) 2 2), (4, .int .i64 (n : Int))])
    (fun n w' => ∃ l0 l1 : GL, n ≤ 2 ∧ l0.length = Np ∧ l1.length = Nq ∧ (1 ≤ n → Rws' 1000000 Np l0) ∧ (2 ≤ n → Rws' 2000000 Nq l1) ∧ Fr w w' [⟨bg, 46, [.slice none 0 0, .slice none 0 0]⟩, ⟨bp, 57, l0.flatMap plc⟩, ⟨bq, 57, l1.flatMap plc⟩] [] (fun k => k = bp ∨ k = bq)) (fun n => 2 - n) 0 (by repeat (first | exact Sub.nil _ | refine Sub.cons rfl ?_ | refine Sub.cons' rfl (int_congr (by omega)) ?_)) ⟨lp, lq, Nat.zero_le _, hlp, hlq, fun h => absurd h (by decide), fun h => absurd h (by decide), hF⟩ ?_
  clear hF hlp hlq lp lq
  rintro n w1 ⟨l0, l1, hn, hl0, hl1, r0, r1, hF⟩
  rcases (by omega : n = 0 ∨ n = 1 ∨ n = 2) with rfl | rfl | rfl
  · repeat' (first | (refine TL.isOp ?_; first | (refine TL.isBin ?_; refine TL.cmpG rfl rfl rfl rfl (fun hc => ?_) (fun hc => ?_) <;> (try (first | (exfalso; omega) | exact absurd rfl hc))) | (apply TL.ev; (case hd => rfl); (case h => (first | exact ev_simple rfl | exact ev_len rfl)))) | (refine T.is ?_; first | refine T.seq ?_ | refine T.region ?_ | refine T.block ?_ | refine T.cond_t rfl ?_ | refine T.skip ?_) | (refine G.is ?_; first | refine G.next ?_) | refine TL.nil ?_)
    refine T.loop (α := Nat × GL) (fun x => [(0, .slice (some ⟨bl, 0, none⟩) 2 2), (3, .slice (some ⟨bg, 0, none⟩) 2 2), (4, .int .i64 ((0 : Nat) : Int)), (5, .int .i64 (x.1 : Int))])
      (fun x w' => x.1 ≤ Np ∧ x.2.length = Np ∧ Rws' 1000000 x.1 x.2 ∧ Fr w w' [⟨bg, 46, [.slice none 0 0, .slice none 0 0]⟩, ⟨bp, 57, x.2.flatMap plc⟩, ⟨bq, 57, l1.flatMap plc⟩] [] (fun k => k = bp ∨ k = bq)) (fun x => Np - x.1) (0, l0) (by repeat (first | exact Sub.nil _ | refine Sub.cons rfl ?_ | refine Sub.cons' rfl (int_congr (by omega)) ?_)) ⟨Nat.zero_le _, hl0, Rws'.zero _ _, hF⟩ ?_
    clear hF hl0
    rintro ⟨i, l⟩ w2 ⟨hi, hl, hr, hF⟩
    dsimp only at hi hl hr hF ⊢
    rcases Nat.lt_or_ge i Np with hin | hin
    · obtain ⟨p, hp⟩ : ∃ p, l[i]? = some p := ⟨_, List.getElem?_eq_getElem (by omega)⟩
      repeat' (first | (refine TL.isOp ?_; first | (refine TL.isBin ?_; refine TL.cmpG rfl rfl rfl rfl (fun hc => ?_) (fun hc => ?_) <;> (try (first | (exfalso; omega) | exact absurd rfl hc))) | (apply TL.ev; (case hd => rfl); (case h => (first | exact ev_simple rfl | (apply Ev.isBin; first | exact ev_arN rfl rfl rfl (by omega)) | exact ev_len rfl | exact ev_indexN rfl rfl (show 0 < 2 by decide) (.inr rfl) | exact ev_indexM rfl rfl hin (.inr rfl) | exact ev_fieldAddrE rfl rfl))) | (refine TL.ev (v := .slice (some ⟨bp, 0, none⟩) Np Np) (ev_loadSl (f := fq) (k := 0) rfl (hSl.exs hF.exs hlb) rfl) rfl ?_) | (refine TL.storeRow hF (l := l) (p := p) (1000000 * (((0 : Nat) : Int) + 1) + (i : Int)) rfl rfl hp (by repeat (first | apply SetV.head | apply SetV.tail)) ?_; clear hF; intro ws hF)) | (refine T.is ?_; first | refine T.seq ?_ | refine T.region ?_ | refine T.block ?_ | refine T.cond_t rfl ?_ | refine T.skip ?_) | (refine G.is ?_; first | refine G.next ?_ | refine G.blockN ?_) | refine TL.nil ?_)
      refine G.again (i + 1, l.set i ((1000000 * (((0 : Nat) : Int) + 1) + (i : Int), p.1.2), p.2)) (by repeat (first | exact Sub.nil _ | refine Sub.cons rfl ?_ | refine Sub.cons' rfl (int_congr (by omega)) ?_)) ⟨hin, by dsimp only; rw [List.length_set]; exact hl, ?_, hF⟩ (by dsimp only; omega)
      have e : (1000000 : Int) * (((0 : Nat) : Int) + 1) = 1000000 := by decide
      dsimp only
      rw [e]
      exact hr.set _ _
    · obtain rfl : Np = i := by omega
      repeat' (first | (refine TL.isOp ?_; first | (refine TL.isBin ?_; refine TL.cmpG rfl rfl rfl rfl (fun hc => ?_) (fun hc => ?_) <;> (try (first | (exfalso; omega) | exact absurd rfl hc))) | (apply TL.ev; (case hd => rfl); (case h => (first | exact ev_simple rfl | (apply Ev.isBin; first | exact ev_arN rfl rfl rfl (by omega)) | exact ev_len rfl | exact ev_indexN rfl rfl (show 0 < 2 by decide) (.inr rfl)))) | (refine TL.ev (v := .slice (some ⟨bp, 0, none⟩) Np Np) (ev_loadSl (f := fq) (k := 0) rfl (hSl.exs hF.exs hlb) rfl) rfl ?_)) | (refine T.is ?_; first | refine T.seq ?_ | refine T.region ?_ | refine T.cond_f rfl ?_ | refine T.exit ?_) | (refine G.is ?_; first | refine G.next ?_ | refine G.blockN ?_ | refine G.blockE ?_ | refine G.thenE ?_) | refine TL.nil ?_)
      exact G.again (0 + 1) (by repeat (first | exact Sub.nil _ | refine Sub.cons rfl ?_ | refine Sub.cons' rfl (int_congr (by omega)) ?_)) ⟨l, l1, by decide, hl, hl1, fun _ => hr, fun h => absurd h (by decide), hF⟩ (by decide)
  · repeat' (first | (refine TL.isOp ?_; first | (refine TL.isBin ?_; refine TL.cmpG rfl rfl rfl rfl (fun hc => ?_) (fun hc => ?_) <;> (try (first | (exfalso; omega) | exact absurd rfl hc))) | (apply TL.ev; (case hd => rfl); (case h => (first | exact ev_simple rfl | exact ev_len rfl)))) | (refine T.is ?_; first | refine T.seq ?_ | refine T.region ?_ | refine T.block ?_ | refine T.cond_t rfl ?_ | refine T.skip ?_) | (refine G.is ?_; first | refine G.next ?_) | refine TL.nil ?_)
    refine T.loop (α := Nat × GL) (fun x => [(0, .slice (some ⟨bl, 0, none⟩) 2 2), (3, .slice (some ⟨bg, 0, none⟩) 2 2), (4, .int .i64 ((1 : Nat) : Int)), (5, .int .i64 (x.1 : Int))])
      (fun x w' => x.1 ≤ Nq ∧ x.2.length = Nq ∧ Rws' 2000000 x.1 x.2 ∧ Fr w w' [⟨bg, 46, [.slice none 0 0, .slice none 0 0]⟩, ⟨bp, 57, l0.flatMap plc⟩, ⟨bq, 57, x.2.flatMap plc⟩] [] (fun k => k = bp ∨ k = bq)) (fun x => Nq - x.1) (0, l1) (by repeat (first | exact Sub.nil _ | refine Sub.cons rfl ?_ | refine Sub.cons' rfl (int_congr (by omega)) ?_)) ⟨Nat.zero_le _, hl1, Rws'.zero _ _, hF⟩ ?_
    clear hF hl1
    rintro ⟨i, l⟩ w2 ⟨hi, hl, hr, hF⟩
    dsimp only at hi hl hr hF ⊢
    rcases Nat.lt_or_ge i Nq with hin | hin
    · obtain ⟨p, hp⟩ : ∃ p, l[i]? = some p := ⟨_, List.getElem?_eq_getElem (by omega)⟩
      repeat' (first | (refine TL.isOp ?_; first | (refine TL.isBin ?_; refine TL.cmpG rfl rfl rfl rfl (fun hc => ?_) (fun hc => ?_) <;> (try (first | (exfalso; omega) | exact absurd rfl hc))) | (apply TL.ev; (case hd => rfl); (case h => (first | exact ev_simple rfl | (apply Ev.isBin; first | exact ev_arN rfl rfl rfl (by omega)) | exact ev_len rfl | exact ev_indexN rfl rfl (show 1 < 2 by decide) (.inr rfl) | exact ev_indexM rfl rfl hin (.inr rfl) | exact ev_fieldAddrE rfl rfl))) | (refine TL.ev (v := .slice (some ⟨bq, 0, none⟩) Nq Nq) (ev_loadSl (f := fq) (k := 1) rfl (hSl.exs hF.exs hlb) rfl) rfl ?_) | (refine TL.storeRow hF (l := l) (p := p) (1000000 * (((1 : Nat) : Int) + 1) + (i : Int)) rfl rfl hp (by repeat (first | apply SetV.head | apply SetV.tail)) ?_; clear hF; intro ws hF)) | (refine T.is ?_; first | refine T.seq ?_ | refine T.region ?_ | refine T.block ?_ | refine T.cond_t rfl ?_ | refine T.skip ?_) | (refine G.is ?_; first | refine G.next ?_ | refine G.blockN ?_) | refine TL.nil ?_)
      refine G.again (i + 1, l.set i ((1000000 * (((1 : Nat) : Int) + 1) + (i : Int), p.1.2), p.2)) (by repeat (first | exact Sub.nil _ | refine Sub.cons rfl ?_ | refine Sub.cons' rfl (int_congr (by omega)) ?_)) ⟨hin, by dsimp only; rw [List.length_set]; exact hl, ?_, hF⟩ (by dsimp only; omega)
      have e : (1000000 : Int) * (((1 : Nat) : Int) + 1) = 2000000 := by decide
      dsimp only
      rw [e]
      exact hr.set _ _
    · obtain rfl : Nq = i := by omega
      repeat' (first | (refine TL.isOp ?_; first | (refine TL.isBin ?_; refine TL.cmpG rfl rfl rfl rfl (fun hc => ?_) (fun hc => ?_) <;> (try (first | (exfalso; omega) | exact absurd rfl hc))) | (apply TL.ev; (case hd => rfl); (case h => (first | exact ev_simple rfl | (apply Ev.isBin; first | exact ev_arN rfl rfl rfl (by omega)) | exact ev_len rfl | exact ev_indexN rfl rfl (show 1 < 2 by decide) (.inr rfl)))) | (refine TL.ev (v := .slice (some ⟨bq, 0, none⟩) Nq Nq) (ev_loadSl (f := fq) (k := 1) rfl (hSl.exs hF.exs hlb) rfl) rfl ?_)) | (refine T.is ?_; first | refine T.seq ?_ | refine T.region ?_ | refine T.cond_f rfl ?_ | refine T.exit ?_) | (refine G.is ?_; first | refine G.next ?_ | refine G.blockN ?_ | refine G.blockE ?_ | refine G.thenE ?_) | refine TL.nil ?_)
      exact G.again (1 + 1) (by repeat (first | exact Sub.nil _ | refine Sub.cons rfl ?_ | refine Sub.cons' rfl (int_congr (by omega)) ?_)) ⟨l0, l, by decide, hl0, hl, fun _ => r0 (by decide), fun _ => hr, hF⟩ (by decide)
  · replace r0 := r0 (by decide)
    replace r1 := r1 (by decide)
    repeat' (first | (refine TL.isOp ?_; first | (refine TL.isBin ?_; refine TL.cmpG rfl rfl rfl rfl (fun hc => ?_) (fun hc => ?_) <;> (try (first | (exfalso; omega) | exact absurd rfl hc))) | (apply TL.ev; (case hd => rfl); (case h => (first | exact ev_simple rfl | exact ev_len rfl)))) | (refine T.is ?_; first | refine T.seq ?_ | refine T.region ?_ | refine T.block ?_ | refine T.cond_f rfl ?_ | refine T.exit ?_) | (refine G.is ?_; first | refine G.next ?_ | refine G.blockE ?_ | refine G.thenE ?_) | refine TL.nil ?_)
    refine T.loop (α := Nat) (fun n => [(0, .slice (some ⟨bl, 0, none⟩) 2 2), (3, .slice (some ⟨bg, 0, none⟩) 2 2), (6, .int .i64 (n : Int))])
      (fun n w' => (n = 0 ∧ Fr w w' [⟨bg, 46, [.slice none 0 0, .slice none 0 0]⟩, ⟨bp, 57, l0.flatMap plc⟩, ⟨bq, 57, l1.flatMap plc⟩] [] (fun k => k = bp ∨ k = bq)) ∨ (n = 1 ∧ ∃ g0 c0 x0 z0, x0.length = Np + 80 ∧ Np + 80 ≤ c0 ∧ Rws' 1000000 (Np + 80) x0 ∧ Fr w w' [⟨g0, 57, x0.flatMap plc ++ z0⟩, ⟨bg, 46, [.slice (some ⟨g0, 0, none⟩) (Np + 80) c0, .slice none 0 0]⟩, ⟨bp, 57, l0.flatMap plc⟩, ⟨bq, 57, l1.flatMap plc⟩] [] (fun k => k = bp ∨ k = bq)) ∨ (n = 2 ∧ ∃ g0 c0 x0 z0 g1 c1 x1 z1, x0.length = Np + 80 ∧ Np + 80 ≤ c0 ∧ Rws' 1000000 (Np + 80) x0 ∧ x1.length = Nq + 80 ∧ Nq + 80 ≤ c1 ∧ Rws' 2000000 (Nq + 80) x1 ∧ Fr w w' [⟨g1, 57, x1.flatMap plc ++ z1⟩, ⟨g0, 57, x0.flatMap plc ++ z0⟩, ⟨bg, 46, [.slice (some ⟨g0, 0, none⟩) (Np + 80) c0, .slice (some ⟨g1, 0, none⟩) (Nq + 80) c1]⟩, ⟨bp, 57, l0.flatMap plc⟩, ⟨bq, 57, l1.flatMap plc⟩] [] (fun k => k = bp ∨ k = bq))) (fun n => 2 - n) 0 (by repeat (first | exact Sub.nil _ | refine Sub.cons rfl ?_ | refine Sub.cons' rfl (int_congr (by omega)) ?_)) (.inl ⟨rfl, hF⟩) ?_
    clear hF
    rintro n w2 (⟨rfl, hF⟩ | ⟨rfl, g0, c0, x0, z0, hx0, hc0, rx0, hF⟩ | ⟨rfl, g0, c0, x0, z0, g1, c1, x1, z1, hx0, hc0, rx0, hx1, hc1, rx1, hF⟩)
    · repeat' (first | (refine TL.isOp ?_; first | (refine TL.isBin ?_; refine TL.cmpG rfl rfl rfl rfl (fun hc => ?_) (fun hc => ?_) <;> (try (first | (exfalso; omega) | exact absurd rfl hc))) | (apply TL.ev; (case hd => rfl); (case h => (first | exact ev_simple rfl | exact ev_len rfl | exact ev_indexN rfl rfl (show 0 < 2 by decide) (.inr rfl)))) | (refine TL.ev (v := .slice (some ⟨bp, 0, none⟩) Np Np) (ev_loadSl (f := fq) (k := 0) rfl (hSl.exs hF.exs hlb) rfl) rfl ?_)) | (refine T.is ?_; first | refine T.seq ?_ | refine T.region ?_ | refine T.block ?_ | refine T.cond_t rfl ?_ | refine T.skip ?_) | (refine G.is ?_; first | refine G.next ?_) | refine TL.nil ?_)
      refine T.loop (α := Nat × Nat × Nat × GL × List Value) (fun x => [(0, .slice (some ⟨bl, 0, none⟩) 2 2), (3, .slice (some ⟨bg, 0, none⟩) 2 2), (6, .int .i64 ((0 : Nat) : Int)), (7, .slice (some ⟨x.2.1, 0, none⟩) (Np + x.1) x.2.2.1), (8, .int .i64 (x.1 : Int))])
        (fun x w' => x.1 ≤ 80 ∧ x.2.2.2.1.length = Np + x.1 ∧ Np + x.1 ≤ x.2.2.1 ∧ Rws' 1000000 (Np + x.1) x.2.2.2.1 ∧ x.2.2.2.2.length = (x.2.2.1 - (Np + x.1)) * 4 ∧ x.2.2.2.2.all noU64 = true ∧ ((x.1 = 0 ∧ x.2.1 = bp ∧ x.2.2.1 = Np ∧ x.2.2.2.1 = l0 ∧ Fr w w' [⟨bg, 46, [.slice none 0 0, .slice none 0 0]⟩, ⟨bp, 57, l0.flatMap plc⟩, ⟨bq, 57, l1.flatMap plc⟩] [] (fun k => k = bp ∨ k = bq)) ∨ (0 < x.1 ∧ Fr w w' [⟨x.2.1, 57, x.2.2.2.1.flatMap plc ++ x.2.2.2.2⟩, ⟨bg, 46, [.slice none 0 0, .slice none 0 0]⟩, ⟨bp, 57, l0.flatMap plc⟩, ⟨bq, 57, l1.flatMap plc⟩] [] (fun k => k = bp ∨ k = bq)))) (fun x => 80 - x.1) (0, bp, Np, l0, []) (by repeat (first | exact Sub.nil _ | refine Sub.cons rfl ?_ | refine Sub.cons' rfl (int_congr (by omega)) ?_)) ⟨Nat.zero_le _, hl0, Nat.le_refl _, r0, by simp, rfl, .inl ⟨rfl, rfl, rfl, rfl, hF⟩⟩ ?_
      clear hF
      rintro ⟨i, g, c, l, z⟩ w3 ⟨hi, hl, hgc, hr, hz, hzn, hst⟩
      dsimp only at hi hl hgc hr hz hzn hst ⊢
      have e1 : (1000000 : Int) * (((0 : Nat) : Int) + 1) = 1000000 := by decide
      rcases Nat.lt_or_ge i 80 with hin | hin
      · have hrs : Rws' 1000000 (Np + (i + 1)) (l ++ [(((1000000 * (((0 : Nat) : Int) + 1) + ((Np + i : Nat) : Int)), 0), iv0)]) := by
          rw [e1]
          have h1 := Rws'.snoc (a := 1000000) (l := l) (by rw [hl]; exact hr) 0 iv0
          rw [hl] at h1
          exact h1
        have hls : (l ++ [(((1000000 * (((0 : Nat) : Int) + 1) + ((Np + i : Nat) : Int)), 0), iv0)]).length = Np + (i + 1) := by rw [List.length_append, hl]; rfl
        rcases hst with ⟨h0, h1, h2, h3, hF⟩ | ⟨h0, hF⟩
        · subst h0
          have h1 := h1.symm
          subst h1
          have h2 := h2.symm
          subst h2
          subst h3
          replace hF : Fr w w3 [⟨bg, 46, [.slice none 0 0, .slice none 0 0]⟩, ⟨bp, 57, l.flatMap plc ++ []⟩, ⟨bq, 57, l1.flatMap plc⟩] [] (fun k => k = bp ∨ k = bq) := by rw [List.append_nil]; exact hF
          repeat' (first | (refine TL.isOp ?_; first | (refine TL.isBin ?_; refine TL.cmpG rfl rfl rfl rfl (fun hc => ?_) (fun hc => ?_) <;> (try (first | (exfalso; omega) | exact absurd rfl hc))) | (apply TL.ev; (case hd => rfl); (case h => (first | exact ev_simple rfl | (apply Ev.isBin; first | exact ev_arN rfl rfl rfl (by omega)) | exact ev_len rfl | exact ev_buildX rfl rfl))) | (refine TL.buildXs hF (f := plc) (d := 62) [(((1000000 * (((0 : Nat) : Int) + 1) + ((Np + 0 : Nat) : Int)), 0), iv0)] [.tmp 61] rfl rfl rfl rfl (by intro u hu; rfl) rfl rfl (by omega) (by omega) ?_; clear hF; intro w62 b62 hF hEn hbn hSn) | (refine TL.appendAtFr (f := plc) (l := l) (zs := []) hF rfl rfl rfl rfl hSn (fun _ => rfl) (fun _ => rfl) rfl rfl hl (by simp) (by omega) (plc_no _ rfl) (by omega) (by repeat (first | exact SetV.head | apply SetV.tail)) (fun hle wa hFn => ?_) (fun hgt wa ba ca za hca hza hzan hFn => ?_) <;> clear hF hSn <;> have hF := hFn <;> clear hFn)) | (refine T.is ?_; first | refine T.seq ?_ | refine T.region ?_ | refine T.block ?_ | refine T.cond_t rfl ?_ | refine T.skip ?_) | (refine G.is ?_; first | refine G.next ?_ | refine G.blockN ?_) | refine TL.nil ?_)
          · exact absurd hle (by omega)
          · exact G.again (1, ba, ca, l ++ [(((1000000 * (((0 : Nat) : Int) + 1) + ((Np + 0 : Nat) : Int)), 0), iv0)], za) (by repeat (first | exact Sub.nil _ | refine Sub.cons rfl ?_ | refine Sub.cons' rfl (int_congr (by omega)) ?_)) ⟨show 1 ≤ 80 by decide, hls, hca, hrs, hza, hzan, .inr ⟨show 0 < 1 by decide, by rw [List.append_nil] at hF; exact hF.weak (by repeat (first | exact List.Sublist.refl _ | apply List.Sublist.cons_cons | apply List.Sublist.cons)) allN⟩⟩ (by dsimp only; omega)
        · repeat' (first | (refine TL.isOp ?_; first | (refine TL.isBin ?_; refine TL.cmpG rfl rfl rfl rfl (fun hc => ?_) (fun hc => ?_) <;> (try (first | (exfalso; omega) | exact absurd rfl hc))) | (apply TL.ev; (case hd => rfl); (case h => (first | exact ev_simple rfl | (apply Ev.isBin; first | exact ev_arN rfl rfl rfl (by omega)) | exact ev_len rfl | exact ev_buildX rfl rfl))) | (refine TL.buildXs hF (f := plc) (d := 62) [(((1000000 * (((0 : Nat) : Int) + 1) + ((Np + i : Nat) : Int)), 0), iv0)] [.tmp 61] rfl rfl rfl rfl (by intro u hu; rfl) rfl rfl (by omega) (by omega) ?_; clear hF; intro w62 b62 hF hEn hbn hSn) | (refine TL.appendAtFr (f := plc) (l := l) (zs := z) hF rfl rfl rfl rfl hSn (fun _ => rfl) (fun _ => rfl) rfl rfl hl hz hgc (plc_no _ hzn) (by omega) (by repeat (first | exact SetV.head | apply SetV.tail)) (fun hle wa hFn => ?_) (fun hgt wa ba ca za hca hza hzan hFn => ?_) <;> clear hF hSn <;> have hF := hFn <;> clear hFn)) | (refine T.is ?_; first | refine T.seq ?_ | refine T.region ?_ | refine T.block ?_ | refine T.cond_t rfl ?_ | refine T.skip ?_) | (refine G.is ?_; first | refine G.next ?_ | refine G.blockN ?_) | refine TL.nil ?_)
          · exact G.again (i + 1, g, c, l ++ [(((1000000 * (((0 : Nat) : Int) + 1) + ((Np + i : Nat) : Int)), 0), iv0)], z.drop (1 * 4)) (by repeat (first | exact Sub.nil _ | refine Sub.cons rfl ?_ | refine Sub.cons' rfl (int_congr (by omega)) ?_)) ⟨hin, hls, hle, hrs, by dsimp only; rw [List.length_drop, hz]; omega, drop_noV hzn _, .inr ⟨Nat.succ_pos _, hF.weak (by repeat (first | exact List.Sublist.refl _ | apply List.Sublist.cons_cons | apply List.Sublist.cons)) allN⟩⟩ (by dsimp only; omega)
          · exact G.again (i + 1, ba, ca, l ++ [(((1000000 * (((0 : Nat) : Int) + 1) + ((Np + i : Nat) : Int)), 0), iv0)], za) (by repeat (first | exact Sub.nil _ | refine Sub.cons rfl ?_ | refine Sub.cons' rfl (int_congr (by omega)) ?_)) ⟨hin, hls, hca, hrs, hza, hzan, .inr ⟨Nat.succ_pos _, hF.weak (by repeat (first | exact List.Sublist.refl _ | apply List.Sublist.cons_cons | apply List.Sublist.cons)) allN⟩⟩ (by dsimp only; omega)
      · obtain rfl : i = 80 := by omega
        rcases hst with ⟨h0, _⟩ | ⟨_, hF⟩
        · omega
        repeat' (first | (refine TL.isOp ?_; first | (refine TL.isBin ?_; refine TL.cmpG rfl rfl rfl rfl (fun hc => ?_) (fun hc => ?_) <;> (try (first | (exfalso; omega) | exact absurd rfl hc))) | (apply TL.ev; (case hd => rfl); (case h => (first | exact ev_simple rfl | (apply Ev.isBin; first | exact ev_arN rfl rfl rfl (by omega)) | exact ev_indexN rfl rfl (show 0 < 2 by decide) (.inr rfl)))) | (refine TL.storeFr hF rfl rfl rfl rfl (by refine ⟨?_, ?_⟩; (focus (repeat (first | apply SetV.head | apply SetV.tail))); rfl) rfl ?_; clear hF; intro ws hF)) | (refine T.is ?_; first | refine T.seq ?_ | refine T.region ?_ | refine T.cond_f rfl ?_ | refine T.exit ?_) | (refine G.is ?_; first | refine G.next ?_ | refine G.blockN ?_ | refine G.blockE ?_ | refine G.thenE ?_) | refine TL.nil ?_)
        exact G.again 1 (by repeat (first | exact Sub.nil _ | refine Sub.cons rfl ?_ | refine Sub.cons' rfl (int_congr (by omega)) ?_)) (.inr (.inl ⟨rfl, g, c, l, z, hl, hgc, hr, hF.weak (by repeat (first | exact List.Sublist.refl _ | apply List.Sublist.cons_cons | apply List.Sublist.cons)) allN⟩)) (by decide)
    · repeat' (first | (refine TL.isOp ?_; first | (refine TL.isBin ?_; refine TL.cmpG rfl rfl rfl rfl (fun hc => ?_) (fun hc => ?_) <;> (try (first | (exfalso; omega) | exact absurd rfl hc))) | (apply TL.ev; (case hd => rfl); (case h => (first | exact ev_simple rfl | exact ev_len rfl | exact ev_indexN rfl rfl (show 1 < 2 by decide) (.inr rfl)))) | (refine TL.ev (v := .slice (some ⟨bq, 0, none⟩) Nq Nq) (ev_loadSl (f := fq) (k := 1) rfl (hSl.exs hF.exs hlb) rfl) rfl ?_)) | (refine T.is ?_; first | refine T.seq ?_ | refine T.region ?_ | refine T.block ?_ | refine T.cond_t rfl ?_ | refine T.skip ?_) | (refine G.is ?_; first | refine G.next ?_) | refine TL.nil ?_)
      refine T.loop (α := Nat × Nat × Nat × GL × List Value) (fun x => [(0, .slice (some ⟨bl, 0, none⟩) 2 2), (3, .slice (some ⟨bg, 0, none⟩) 2 2), (6, .int .i64 ((1 : Nat) : Int)), (7, .slice (some ⟨x.2.1, 0, none⟩) (Nq + x.1) x.2.2.1), (8, .int .i64 (x.1 : Int))])
        (fun x w' => x.1 ≤ 80 ∧ x.2.2.2.1.length = Nq + x.1 ∧ Nq + x.1 ≤ x.2.2.1 ∧ Rws' 2000000 (Nq + x.1) x.2.2.2.1 ∧ x.2.2.2.2.length = (x.2.2.1 - (Nq + x.1)) * 4 ∧ x.2.2.2.2.all noU64 = true ∧ ((x.1 = 0 ∧ x.2.1 = bq ∧ x.2.2.1 = Nq ∧ x.2.2.2.1 = l1 ∧ Fr w w' [⟨g0, 57, x0.flatMap plc ++ z0⟩, ⟨bg, 46, [.slice (some ⟨g0, 0, none⟩) (Np + 80) c0, .slice none 0 0]⟩, ⟨bp, 57, l0.flatMap plc⟩, ⟨bq, 57, l1.flatMap plc⟩] [] (fun k => k = bp ∨ k = bq)) ∨ (0 < x.1 ∧ Fr w w' [⟨x.2.1, 57, x.2.2.2.1.flatMap plc ++ x.2.2.2.2⟩, ⟨g0, 57, x0.flatMap plc ++ z0⟩, ⟨bg, 46, [.slice (some ⟨g0, 0, none⟩) (Np + 80) c0, .slice none 0 0]⟩, ⟨bp, 57, l0.flatMap plc⟩, ⟨bq, 57, l1.flatMap plc⟩] [] (fun k => k = bp ∨ k = bq)))) (fun x => 80 - x.1) (0, bq, Nq, l1, []) (by repeat (first | exact Sub.nil _ | refine Sub.cons rfl ?_ | refine Sub.cons' rfl (int_congr (by omega)) ?_)) ⟨Nat.zero_le _, hl1, Nat.le_refl _, r1, by simp, rfl, .inl ⟨rfl, rfl, rfl, rfl, hF⟩⟩ ?_
      clear hF
      rintro ⟨i, g, c, l, z⟩ w3 ⟨hi, hl, hgc, hr, hz, hzn, hst⟩
      dsimp only at hi hl hgc hr hz hzn hst ⊢
      have e1 : (1000000 : Int) * (((1 : Nat) : Int) + 1) = 2000000 := by decide
      rcases Nat.lt_or_ge i 80 with hin | hin
      · have hrs : Rws' 2000000 (Nq + (i + 1)) (l ++ [(((1000000 * (((1 : Nat) : Int) + 1) + ((Nq + i : Nat) : Int)), 0), iv0)]) := by
          rw [e1]
          have h1 := Rws'.snoc (a := 2000000) (l := l) (by rw [hl]; exact hr) 0 iv0
          rw [hl] at h1
          exact h1
        have hls : (l ++ [(((1000000 * (((1 : Nat) : Int) + 1) + ((Nq + i : Nat) : Int)), 0), iv0)]).length = Nq + (i + 1) := by rw [List.length_append, hl]; rfl
        rcases hst with ⟨h0, h1, h2, h3, hF⟩ | ⟨h0, hF⟩
        · subst h0
          have h1 := h1.symm
          subst h1
          have h2 := h2.symm
          subst h2
          subst h3
          replace hF : Fr w w3 [⟨g0, 57, x0.flatMap plc ++ z0⟩, ⟨bg, 46, [.slice (some ⟨g0, 0, none⟩) (Np + 80) c0, .slice none 0 0]⟩, ⟨bp, 57, l0.flatMap plc⟩, ⟨bq, 57, l.flatMap plc ++ []⟩] [] (fun k => k = bp ∨ k = bq) := by rw [List.append_nil]; exact hF
          repeat' (first | (refine TL.isOp ?_; first | (refine TL.isBin ?_; refine TL.cmpG rfl rfl rfl rfl (fun hc => ?_) (fun hc => ?_) <;> (try (first | (exfalso; omega) | exact absurd rfl hc))) | (apply TL.ev; (case hd => rfl); (case h => (first | exact ev_simple rfl | (apply Ev.isBin; first | exact ev_arN rfl rfl rfl (by omega)) | exact ev_len rfl | exact ev_buildX rfl rfl))) | (refine TL.buildXs hF (f := plc) (d := 62) [(((1000000 * (((1 : Nat) : Int) + 1) + ((Nq + 0 : Nat) : Int)), 0), iv0)] [.tmp 61] rfl rfl rfl rfl (by intro u hu; rfl) rfl rfl (by omega) (by omega) ?_; clear hF; intro w62 b62 hF hEn hbn hSn) | (refine TL.appendAtFr (f := plc) (l := l) (zs := []) hF rfl rfl rfl rfl hSn (fun _ => rfl) (fun _ => rfl) rfl rfl hl (by simp) (by omega) (plc_no _ rfl) (by omega) (by repeat (first | exact SetV.head | apply SetV.tail)) (fun hle wa hFn => ?_) (fun hgt wa ba ca za hca hza hzan hFn => ?_) <;> clear hF hSn <;> have hF := hFn <;> clear hFn)) | (refine T.is ?_; first | refine T.seq ?_ | refine T.region ?_ | refine T.block ?_ | refine T.cond_t rfl ?_ | refine T.skip ?_) | (refine G.is ?_; first | refine G.next ?_ | refine G.blockN ?_) | refine TL.nil ?_)
          · exact absurd hle (by omega)
          · exact G.again (1, ba, ca, l ++ [(((1000000 * (((1 : Nat) : Int) + 1) + ((Nq + 0 : Nat) : Int)), 0), iv0)], za) (by repeat (first | exact Sub.nil _ | refine Sub.cons rfl ?_ | refine Sub.cons' rfl (int_congr (by omega)) ?_)) ⟨show 1 ≤ 80 by decide, hls, hca, hrs, hza, hzan, .inr ⟨show 0 < 1 by decide, by rw [List.append_nil] at hF; exact hF.weak (by repeat (first | exact List.Sublist.refl _ | apply List.Sublist.cons_cons | apply List.Sublist.cons)) allN⟩⟩ (by dsimp only; omega)
        · repeat' (first | (refine TL.isOp ?_; first | (refine TL.isBin ?_; refine TL.cmpG rfl rfl rfl rfl (fun hc => ?_) (fun hc => ?_) <;> (try (first | (exfalso; omega) | exact absurd rfl hc))) | (apply TL.ev; (case hd => rfl); (case h => (first | exact ev_simple rfl | (apply Ev.isBin; first | exact ev_arN rfl rfl rfl (by omega)) | exact ev_len rfl | exact ev_buildX rfl rfl))) | (refine TL.buildXs hF (f := plc) (d := 62) [(((1000000 * (((1 : Nat) : Int) + 1) + ((Nq + i : Nat) : Int)), 0), iv0)] [.tmp 61] rfl rfl rfl rfl (by intro u hu; rfl) rfl rfl (by omega) (by omega) ?_; clear hF; intro w62 b62 hF hEn hbn hSn) | (refine TL.appendAtFr (f := plc) (l := l) (zs := z) hF rfl rfl rfl rfl hSn (fun _ => rfl) (fun _ => rfl) rfl rfl hl hz hgc (plc_no _ hzn) (by omega) (by repeat (first | exact SetV.head | apply SetV.tail)) (fun hle wa hFn => ?_) (fun hgt wa ba ca za hca hza hzan hFn => ?_) <;> clear hF hSn <;> have hF := hFn <;> clear hFn)) | (refine T.is ?_; first | refine T.seq ?_ | refine T.region ?_ | refine T.block ?_ | refine T.cond_t rfl ?_ | refine T.skip ?_) | (refine G.is ?_; first | refine G.next ?_ | refine G.blockN ?_) | refine TL.nil ?_)
          · exact G.again (i + 1, g, c, l ++ [(((1000000 * (((1 : Nat) : Int) + 1) + ((Nq + i : Nat) : Int)), 0), iv0)], z.drop (1 * 4)) (by repeat (first | exact Sub.nil _ | refine Sub.cons rfl ?_ | refine Sub.cons' rfl (int_congr (by omega)) ?_)) ⟨hin, hls, hle, hrs, by dsimp only; rw [List.length_drop, hz]; omega, drop_noV hzn _, .inr ⟨Nat.succ_pos _, hF.weak (by repeat (first | exact List.Sublist.refl _ | apply List.Sublist.cons_cons | apply List.Sublist.cons)) allN⟩⟩ (by dsimp only; omega)
          · exact G.again (i + 1, ba, ca, l ++ [(((1000000 * (((1 : Nat) : Int) + 1) + ((Nq + i : Nat) : Int)), 0), iv0)], za) (by repeat (first | exact Sub.nil _ | refine Sub.cons rfl ?_ | refine Sub.cons' rfl (int_congr (by omega)) ?_)) ⟨hin, hls, hca, hrs, hza, hzan, .inr ⟨Nat.succ_pos _, hF.weak (by repeat (first | exact List.Sublist.refl _ | apply List.Sublist.cons_cons | apply List.Sublist.cons)) allN⟩⟩ (by dsimp only; omega)
      · obtain rfl : i = 80 := by omega
        rcases hst with ⟨h0, _⟩ | ⟨_, hF⟩
        · omega
        repeat' (first | (refine TL.isOp ?_; first | (refine TL.isBin ?_; refine TL.cmpG rfl rfl rfl rfl (fun hc => ?_) (fun hc => ?_) <;> (try (first | (exfalso; omega) | exact absurd rfl hc))) | (apply TL.ev; (case hd => rfl); (case h => (first | exact ev_simple rfl | (apply Ev.isBin; first | exact ev_arN rfl rfl rfl (by omega)) | exact ev_indexN rfl rfl (show 1 < 2 by decide) (.inr rfl)))) | (refine TL.storeFr hF rfl rfl rfl rfl (by refine ⟨?_, ?_⟩; (focus (repeat (first | apply SetV.head | apply SetV.tail))); rfl) rfl ?_; clear hF; intro ws hF)) | (refine T.is ?_; first | refine T.seq ?_ | refine T.region ?_ | refine T.cond_f rfl ?_ | refine T.exit ?_) | (refine G.is ?_; first | refine G.next ?_ | refine G.blockN ?_ | refine G.blockE ?_ | refine G.thenE ?_) | refine TL.nil ?_)
        exact G.again 2 (by repeat (first | exact Sub.nil _ | refine Sub.cons rfl ?_ | refine Sub.cons' rfl (int_congr (by omega)) ?_)) (.inr (.inr ⟨rfl, g0, c0, x0, z0, g, c, l, z, hx0, hc0, rx0, hl, hgc, hr, hF.weak (by repeat (first | exact List.Sublist.refl _ | apply List.Sublist.cons_cons | apply List.Sublist.cons)) allN⟩)) (by decide)
    · repeat' (first | (refine TL.isOp ?_; first | (refine TL.isBin ?_; refine TL.cmpG rfl rfl rfl rfl (fun hc => ?_) (fun hc => ?_) <;> (try (first | (exfalso; omega) | exact absurd rfl hc))) | (apply TL.ev; (case hd => rfl); (case h => (first | exact ev_simple rfl | exact ev_len rfl)))) | (refine T.is ?_; first | refine T.seq ?_ | refine T.region ?_ | refine T.block ?_ | refine T.cond_f rfl ?_ | refine T.exit ?_) | (refine G.is ?_; first | refine G.next ?_ | refine G.blockE ?_ | refine G.thenE ?_) | refine TL.nil ?_)
      refine T.loop (α := Nat) (fun n => [(0, .slice (some ⟨bl, 0, none⟩) 2 2), (3, .slice (some ⟨bg, 0, none⟩) 2 2), (9, .int .i64 (n : Int))])
        (fun n w' => n ≤ 2 ∧ Fr w w' [⟨g1, 57, x1.flatMap plc ++ z1⟩, ⟨g0, 57, x0.flatMap plc ++ z0⟩, ⟨bg, 46, [.slice (some ⟨g0, 0, none⟩) (Np + 80) c0, .slice (some ⟨g1, 0, none⟩) (Nq + 80) c1]⟩, ⟨bp, 57, l0.flatMap plc⟩, ⟨bq, 57, l1.flatMap plc⟩] [] (fun k => k = bp ∨ k = bq)) (fun n => 2 - n) 0 (by repeat (first | exact Sub.nil _ | refine Sub.cons rfl ?_ | refine Sub.cons' rfl (int_congr (by omega)) ?_)) ⟨by decide, hF⟩ ?_
      clear hF
      rintro n w3 ⟨hn, hF⟩
      rcases (by omega : n = 0 ∨ n = 1 ∨ n = 2) with rfl | rfl | rfl
      · repeat' (first | (refine TL.isOp ?_; first | (refine TL.isCall ?_; refine TL.call rfl rfl ?_; first | (refine (keptT _ (some ⟨bp, 0, none⟩) (some ⟨g0, 0, none⟩) Np Np c0 (1000000 * (((0 : Nat) : Int) + 1)) l0 x0 (pb_sm (zs := []) hF (by rw [List.append_nil]; exact (by repeat (first | exact InV.head | apply InV.tail))) hl0 (Nat.le_refl _)) (pb_sm hF (by repeat (first | exact InV.head | apply InV.tail)) hx0 hc0) (by omega) (by decide) (by rw [show (1000000 : Int) * (((0 : Nat) : Int) + 1) = 1000000 by decide]; exact r0) (by rw [show (1000000 : Int) * (((0 : Nat) : Int) + 1) = 1000000 by decide]; exact rx0)).mono ?_; rintro _ wk ⟨rfl, hE⟩; replace hF := hF.exts hE; clear hE; refine Back.mk ?_)) | (refine TL.isBin ?_; refine TL.cmpG rfl rfl rfl rfl (fun hc => ?_) (fun hc => ?_) <;> (try (first | (exfalso; omega) | exact absurd rfl hc))) | (apply TL.ev; (case hd => rfl); (case h => (first | exact ev_simple rfl | (apply Ev.isBin; first | exact ev_arN rfl rfl rfl (by omega)) | exact ev_len rfl)))) | (refine TF.is ?_; first | refine TF.nil ?_ | refine TF.e rfl ?_ | (refine TF.pick rfl ?_; first | (apply TFo.ev; (case hd => rfl); (case h => (intro wh hF; first | exact ev_simple rfl | (apply Ev.isBin; first | exact ev_arN rfl rfl rfl (by omega)) | (apply Ev.isLoad; first | exact ev_loadFr hF rfl (by refine ⟨?_, ?_⟩; (focus (repeat (first | exact InV.head | apply InV.tail))); rfl) | exact ev_loadSl (f := fq) (k := 0) rfl (hSl.exs hF.exs hlb) rfl) | exact ev_indexN rfl rfl (show 0 < 2 by decide) (.inr rfl)))))) | (refine T.is ?_; first | refine T.seq ?_ | refine T.region ?_ | refine T.block ?_ | refine T.cond_t rfl ?_ | refine T.cond_f rfl ?_ | refine T.skip ?_ | (refine T.regionFr hF 21 13 (.s 0 (.s 1 (.s 2 (.s 3 (.s 4 (.s 5 (.s 6 (.s 7 (.s 8 (.s 9 (.s 10 (.e 11 (.s 12 .nil))))))))))))) mixed (by kernel_rfl) ?_; clear hF; intro wr hF)) | (refine G.is ?_; first | refine G.next ?_ | refine G.blockN ?_ | refine G.only ?_ | refine G.tree rfl (by first | exact hF | exact hF.weak (List.sublist_append_right _ _) (by repeat (first | exact allR | apply allT)) | exact hF.weak (by repeat (first | exact List.Sublist.refl _ | apply List.Sublist.cons)) (by repeat (first | exact allR | apply allT)) | exact hF.weak (by repeat (first | exact List.Sublist.refl _ | apply List.Sublist.cons)) (by repeat (first | exact allN | refine allH (by repeat (first | exact memH | apply memT)) ?_))) ?_) | refine TL.nil ?_)
        all_goals exact G.again 1 (by repeat (first | exact Sub.nil _ | refine Sub.cons rfl ?_ | refine Sub.cons' rfl (int_congr (by omega)) ?_)) ⟨by decide, hF⟩ (by decide)
      · repeat' (first | (refine TL.isOp ?_; first | (refine TL.isCall ?_; refine TL.call rfl rfl ?_; first | (refine (keptT _ (some ⟨bq, 0, none⟩) (some ⟨g1, 0, none⟩) Nq Nq c1 (1000000 * (((1 : Nat) : Int) + 1)) l1 x1 (pb_sm (zs := []) hF (by rw [List.append_nil]; exact (by repeat (first | exact InV.head | apply InV.tail))) hl1 (Nat.le_refl _)) (pb_sm hF (by repeat (first | exact InV.head | apply InV.tail)) hx1 hc1) (by omega) (by decide) (by rw [show (1000000 : Int) * (((1 : Nat) : Int) + 1) = 2000000 by decide]; exact r1) (by rw [show (1000000 : Int) * (((1 : Nat) : Int) + 1) = 2000000 by decide]; exact rx1)).mono ?_; rintro _ wk ⟨rfl, hE⟩; replace hF := hF.exts hE; clear hE; refine Back.mk ?_)) | (refine TL.isBin ?_; refine TL.cmpG rfl rfl rfl rfl (fun hc => ?_) (fun hc => ?_) <;> (try (first | (exfalso; omega) | exact absurd rfl hc))) | (apply TL.ev; (case hd => rfl); (case h => (first | exact ev_simple rfl | (apply Ev.isBin; first | exact ev_arN rfl rfl rfl (by omega)) | exact ev_len rfl)))) | (refine TF.is ?_; first | refine TF.nil ?_ | refine TF.e rfl ?_ | (refine TF.pick rfl ?_; first | (apply TFo.ev; (case hd => rfl); (case h => (intro wh hF; first | exact ev_simple rfl | (apply Ev.isBin; first | exact ev_arN rfl rfl rfl (by omega)) | (apply Ev.isLoad; first | exact ev_loadFr hF rfl (by refine ⟨?_, ?_⟩; (focus (repeat (first | exact InV.head | apply InV.tail))); rfl) | exact ev_loadSl (f := fq) (k := 1) rfl (hSl.exs hF.exs hlb) rfl) | exact ev_indexN rfl rfl (show 1 < 2 by decide) (.inr rfl)))))) | (refine T.is ?_; first | refine T.seq ?_ | refine T.region ?_ | refine T.block ?_ | refine T.cond_t rfl ?_ | refine T.cond_f rfl ?_ | refine T.skip ?_ | (refine T.regionFr hF 21 13 (.s 0 (.s 1 (.s 2 (.s 3 (.s 4 (.s 5 (.s 6 (.s 7 (.s 8 (.s 9 (.s 10 (.e 11 (.s 12 .nil))))))))))))) mixed (by kernel_rfl) ?_; clear hF; intro wr hF)) | (refine G.is ?_; first | refine G.next ?_ | refine G.blockN ?_ | refine G.only ?_ | refine G.tree rfl (by first | exact hF | exact hF.weak (List.sublist_append_right _ _) (by repeat (first | exact allR | apply allT)) | exact hF.weak (by repeat (first | exact List.Sublist.refl _ | apply List.Sublist.cons)) (by repeat (first | exact allR | apply allT)) | exact hF.weak (by repeat (first | exact List.Sublist.refl _ | apply List.Sublist.cons)) (by repeat (first | exact allN | refine allH (by repeat (first | exact memH | apply memT)) ?_))) ?_) | refine TL.nil ?_)
        all_goals exact G.again 2 (by repeat (first | exact Sub.nil _ | refine Sub.cons rfl ?_ | refine Sub.cons' rfl (int_congr (by omega)) ?_)) ⟨by decide, hF⟩ (by decide)
      · repeat' (first | (refine TL.isOp ?_; first | (refine TL.isBin ?_; refine TL.cmpG rfl rfl rfl rfl (fun hc => ?_) (fun hc => ?_) <;> (try (first | (exfalso; omega) | exact absurd rfl hc))) | (apply TL.ev; (case hd => rfl); (case h => (first | exact ev_simple rfl | exact ev_len rfl)))) | (refine T.is ?_; first | refine T.seq ?_ | refine T.region ?_ | refine T.cond_f rfl ?_ | refine T.exit ?_ | refine T.ret ?_) | (refine G.is ?_; first | refine G.next ?_ | refine G.blockE ?_ | refine G.thenE ?_) | refine TL.nil ?_)
        exact G.ret1 rfl rfl ⟨rfl, hF.exs⟩
end Go.Proofs.YtlpheckjogphmaaGreat
set_option linter.unusedSectionVars false
namespace Go.Eng
open Go Go.Proofs Go.NatM Go.RowKit Go.Proofs.YtlpheckjogphmaaGreat
def MP (P : Nat → Prop) (x : MV) : Prop := (∀ q, q < x.l.length → ∀ k, fpA (x.l.getD q default).m.A (x.l.getD q default).m.n k → P k) ∧ ∀ k, fpA x.A x.n k → P k
theorem MP.mono {P P' : Nat → Prop} {x : MV} (h : MP P x) (hP : ∀ k, P k → P' k) : MP P' x := ⟨fun q hq k hk => hP k (h.1 q hq k hk), fun k hk => hP k (h.2 k hk)⟩
theorem GI.fp_lt {H : Array Obj} {x : IV} (h : GI H x) {k : Nat} (hk : fpA x.m.A x.m.n k) : k < H.size := by
  obtain ⟨h0, o, e⟩ := hk
  rcases h.s.mem with h1 | ⟨b, o', e', hb, _⟩
  · omega
  · rw [e] at e'; cases e'; exact hb
theorem LM.up {H : Array Obj} {x : MV} {r c K : Nat} {F : Nat → Nat → Int} (h : LM H x r c F K) : MP (fun k => k < H.size) x := ⟨fun q hq k hk => by
  have hl := h.s.len
  have hn := h.sh.n
  have hqn : q < r * c := by omega
  have hc : 0 < c := Nat.pos_of_ne_zero fun e => by rw [e, Nat.mul_zero] at hqn; omega
  have h1 := (h.g (q / c) (q % c) ((Nat.div_lt_iff_lt_mul hc).2 hqn) (Nat.mod_lt _ hc)).1.g
  rw [Nat.mul_comm, Nat.div_add_mod] at h1
  exact GI.fp_lt h1 hk, fun k hk => h.s.fp_lt hk⟩
theorem LM.sameP {P : Nat → Prop} {H H' : Array Obj} {x : MV} {r c K : Nat} {F : Nat → Nat → Int} (h : LM H x r c F K) (hP : MP P x) (hz : H.size ≤ H'.size) (he : ∀ k, P k → k < H.size → H'[k]? = H[k]?) : LM H' x r c F K := by
  have hl := h.s.len
  have hxn := h.sh.n
  refine ⟨h.sh, Sm.same h.s hz fun k hk => he k (hP.2 k hk) (h.s.fp_lt hk), fun i j hi hj => ⟨LI.same (h.g i j hi hj).1 hz fun k hk => ?_, (h.g i j hi hj).2⟩⟩
  have hlt := place_lt hi hj
  exact he k (hP.1 _ (by omega) k hk) (GI.fp_lt (h.g i j hi hj).1.g hk)
theorem NwL.mp {lo : Nat} {w : World} {x : MV} (h : NwL lo x.l) (hf : MF w x) (hl : lo ≤ w.heap.size) : MP (fun k => lo ≤ k) x := ⟨fun q hq k hk => h q hq k hk, fun k hk => Nat.le_trans hl (mf_fp hf k hk)⟩
theorem GZP.old {P : Nat → Prop} {H : Array Obj} {g m r c N : Nat} {Z : ZF} (h : GZP P H g m r c Z N) : GZP (fun k => k < H.size) H g m r c Z N := by
  obtain ⟨l, h1, h2, h3, h4, _⟩ := h
  exact ⟨l, h1, h2, h3, h4, fun p hp k hk => GI.fp_lt (h1.vals p hp).1.g hk⟩
theorem rowsF_congr {F G : Nat → Nat → Int} {r c : Nat} (h : ∀ i j, i < r → j < c → F i j = G i j) : rowsF F c r 0 = rowsF G c r 0 := funext fun k => by
  unfold rowsF
  by_cases e : (0 ≤ k.1 ∧ 0 ≤ k.2 ∧ k.2 < (c : Int)) ∧ (k.1 < (r : Int) ∨ (k.1 = (r : Int) ∧ k.2 < ((0 : Nat) : Int)))
  · rw [if_pos e, if_pos e]
    exact h _ _ (by omega) (by omega)
  · rw [if_neg e, if_neg e]
def dpSz (t : Nat) : DP := ⟨fun H => t ≤ H.size, fun _ => False, fun _ _ _ h => h.elim, fun _ _ hd h => Nat.le_trans h hd.size⟩
section
variable {S : Nat → Prop} {w0 w w' : World} {L : List VB} {D D' : List DP}
theorem Fr.mark (hF : Fr w0 w L D S) : ∃ t, t = w.heap.size ∧ Fr w0 w L (dpSz t :: D) S := ⟨_, rfl, hF.add _ (Nat.le_refl _) fun _ _ h => h.elim⟩
theorem Fr.sz {t : Nat} (hF : Fr w0 w L D S) (h : dpSz t ∈ D) : t ≤ w.heap.size := hF.data _ h
theorem Fr.spoilt (h : Fr w0 w L D) {A : Option Addr} (hA : ∀ k, A = some ⟨k, 0, none⟩ → w0.heap.size ≤ k) (hL : ∀ v ∈ L, ∀ k, A = some ⟨k, 0, none⟩ → v.b ≠ k) (hX : Exs (fun k => A = some ⟨k, 0, none⟩) w w') (hD : ∀ d ∈ D', d.p w'.heap ∧ ∃ e ∈ D, ∀ k, d.fp k → e.fp k) : Fr w0 w' L D' :=
  ⟨h.exs.then hX fun i hi e => absurd hi (Nat.not_lt_of_le (hA i e)), fun v hv => ⟨(h.vars v hv).1, by
    have h1 := (h.vars v hv).2
    have h2 := h1.lt
    unfold Vr at h1 ⊢
    exact (hX.block _ h2 fun e => hL v hv _ e rfl).trans h1⟩, h.dist, fun d hd => (hD d hd).1, fun v hv d hd hk => by
    obtain ⟨_, e, he, hf⟩ := hD d hd
    exact h.apart v hv e he (hf _ hk)⟩
theorem Fr.noWords {lo n c : Nat} {A : Option Addr} {l : List Nat} (h : Fr w0 w L D S) (hO : Ow u64v w.heap lo 64 A n c l) (ht : (L.all fun v => !(v.t == 64)) = true := by rfl) : ∀ v ∈ L, ∀ k, A = some ⟨k, 0, none⟩ → v.b ≠ k := fun v hv k hk e => by
  have h1 := List.all_eq_true.1 ht v hv
  subst e
  exact ty_ne (fun e => by rw [e] at h1; simp at h1) (Ow.ty hO hk) (Vr.ty (h.vars v hv).2)
def dpBK (lo : Nat) (x : BK) : DP := ⟨fun H => x.p H ∧ ∀ k, x.fp k → lo ≤ k, fun k => x.fp k, fun H k h hf => by
    obtain ⟨h, _⟩ := h
    rcases hf with rfl | hf | hf
    · exact h.1.lt
    · exact h.2.1.blt hf
    · exact h.2.2.blt hf, fun H H' hd h => by
    obtain ⟨h, hl⟩ := h
    have key : ∀ k (cur : Array Value) (t : TypeId), x.fp k → H[k]? = some (.cells cur t (0, 0)) → H'[k]? = some (.cells cur t (0, 0)) := fun k cur t hf hk => (hd.block k cur t _ hk (.inl hf)).trans hk
    refine ⟨⟨?_, ?_, ?_⟩, hl⟩
    · have h1 := h.1
      unfold Vr at h1 ⊢
      exact key _ _ _ (.inl rfl) h1
    · refine ow_iff.2 ⟨(ow_iff.1 h.2.1).1, (ow_iff.1 h.2.1).2.imp id ?_⟩
      rintro ⟨g, cur, e, a, hg, r⟩
      exact ⟨g, cur, e, a, key _ _ _ (.inr (.inl e)) hg, r⟩
    · refine ow_iff.2 ⟨(ow_iff.1 h.2.2).1, (ow_iff.1 h.2.2).2.imp id ?_⟩
      rintro ⟨g, cur, e, a, hg, r⟩
      exact ⟨g, cur, e, a, key _ _ _ (.inr (.inr e)) hg, r⟩⟩
theorem Fr.bkp {lo : Nat} {x : BK} (hF : Fr w0 w L D S) (h : dpBK lo x ∈ D) : x.p w.heap := (hF.data _ h).1
theorem Fr.callBK {x x' : BK} (hF : Fr w0 w L [dpBK w0.heap.size x] S) (hX : Exs x.fp w w') (hp : x'.p w'.heap) (hfp : ∀ k, x'.fp k → x.fp k ∨ w.heap.size ≤ k) : Fr w0 w' L [dpBK w0.heap.size x'] S := by
  have hlo := (hF.data _ (List.mem_singleton.2 rfl)).2
  have hap : ∀ v ∈ L, ¬ x.fp v.b := fun v hv hk => hF.apart v hv _ (List.mem_singleton.2 rfl) hk
  refine ⟨hF.exs.then hX fun i hi e => absurd hi (Nat.not_lt_of_le (hlo i e)), fun v hv => ⟨(hF.vars v hv).1, ?_⟩, hF.dist, fun d hd => ?_, fun v hv d hd hk => ?_⟩
  · have h1 := (hF.vars v hv).2
    have h2 := h1.lt
    unfold Vr at h1 ⊢
    exact (hX.block _ h2 (hap v hv)).trans h1
  · rw [List.mem_singleton] at hd; subst hd
    refine ⟨hp, fun k hk => ?_⟩
    rcases hfp k hk with h | h
    · exact hlo k h
    · exact Nat.le_trans hF.exs.size h
  · rw [List.mem_singleton] at hd; subst hd
    rcases hfp _ hk with h | h
    · exact hap v hv h
    · have := (hF.vars v hv).2.lt; omega
theorem Fr.callBKo {x x' : BK} {lo : Nat} {T : List IV} (hF : Fr w0 w L [dpBK w0.heap.size x, dpOwL lo T] S) (hX : Exs x.fp w w') (hp : x'.p w'.heap) (hfp : ∀ k, x'.fp k → x.fp k ∨ w.heap.size ≤ k) (hO : OwL w'.heap lo T) : Fr w0 w' L [dpBK w0.heap.size x', dpOwL lo T] S := by
  have h1 := Fr.callBK (hF.weak (D := [dpBK w0.heap.size x]) (List.Sublist.refl _) (allH (List.mem_cons_self ..) allN)) hX hp hfp
  have h2 := h1.add (dpOwL lo T) (by unfold dpOwL; exact hO) fun v hv hk => hF.apart v hv (dpOwL lo T) (List.mem_cons_of_mem _ (List.mem_cons_self ..)) (by unfold dpOwL at hk ⊢; exact hk)
  exact h2.weak (List.Sublist.refl _) (allH (List.mem_cons_of_mem _ (List.mem_cons_self ..)) (allH (List.mem_cons_self ..) allN))
theorem Fr.newBK {b : Nat} {L' : List VB} (hF : Fr w0 w (⟨b, 54, [.slice none 0 0, .slice none 0 0, .slice none 0 0]⟩ :: L) [] S) (hb : w0.heap.size ≤ b) : Fr w0 w L [dpBK w0.heap.size ⟨b, none, 0, [], none, 0, []⟩] S := by
  have hd := List.pairwise_cons.1 hF.dist
  refine ⟨hF.exs, fun v hv => hF.vars v (List.mem_cons_of_mem _ hv), hd.2, fun d hd' => ?_, fun v hv d hd' hk => ?_⟩
  · rw [List.mem_singleton] at hd'; subst hd'
    refine ⟨⟨(hF.vars _ (List.mem_cons_self ..)).2, ow_iff.2 ⟨rfl, .inl ⟨rfl, rfl, rfl⟩⟩, ow_iff.2 ⟨rfl, .inl ⟨rfl, rfl, rfl⟩⟩⟩, fun k hk => ?_⟩
    rcases hk with rfl | hk | hk
    · exact hb
    · cases hk
    · cases hk
  · rw [List.mem_singleton] at hd'; subst hd'
    rcases hk with hk | hk | hk
    · exact hd.1 v hv hk.symm
    · cases hk
    · cases hk
end
theorem TL.storeAtZFr {P : Program} {N : Fm} {Q : Exit → Act → World → Prop} {σ : Go.Eng.Store} {S : Nat → Prop} {w0 w : World} {L : List VB} {D : List DP} {ops : Array Oper} {t : TypeId} {pos : String} {af : Array Edge} {rest : List Oper} (hF : Fr w0 w L D S) {α : Type} {f : α → List Value} {x y : Operand} {ty e : TypeId} {z : Value} {k b1 : Nat} [hS : USize P ty z k b1] {b i : Nat} {l : List α} {zs : List Value} (u : α) {vs : List Value} {L' : List VB}
    (hx : Go.Eng.look σ x = some (.pointer (elemA (some ⟨b, 0, none⟩) (i * k)))) (hy : Go.Eng.look σ y = some (.agg vs.toArray)) (hvs : f u = vs) (h1 : vs.all (·.oneCell') = true) (hw : ∀ x, (f x).length = k) (hi : i < l.length) (hn : (l.flatMap f ++ zs).all noU64 = true)
    (hL : SetV L b e (l.flatMap f ++ zs) ((l.set i u).flatMap f ++ zs) L')
    (K : ∀ w', Fr w0 w' L' D S → TL P N .seq ops Q rest σ w') : TL P N .seq ops Q (⟨none, .store ty x y, t, pos, af, none⟩ :: rest) σ w := by
  subst hvs
  have hV := hF.var hL.inV
  have hlen : (l.flatMap f).length = l.length * k := flatMap_len fun x _ => hw x
  have hik : i * k + k ≤ l.length * k := by
    have h1 : (i + 1) * k ≤ l.length * k := Nat.mul_le_mul_right k hi
    rw [Nat.add_mul, Nat.one_mul] at h1
    exact h1
  obtain ⟨ii, hii, _, hsz', _⟩ := hS.info
  have hst := run_storeCells_at P b (0 + i * k) e (f u) 0 (l.flatMap f ++ zs).toArray w hV (by simp only [List.size_toArray]; rw [List.length_append, hlen, hw]; omega) (fun v hv => List.all_eq_true.1 h1 v hv)
  simp only [Nat.add_zero, Nat.zero_add, hw] at hst
  rw [show (l.flatMap f ++ zs).take (i * k) ++ f u ++ (l.flatMap f ++ zs).drop (i * k + k) = (l.set i u).flatMap f ++ zs by
    rw [List.take_append_of_le_length (by omega), List.drop_append_of_le_length (by omega), ← flatMap_set hw u l i (by omega)]; simp] at hst
  have hV' : Vr (w.setRow b ((l.set i u).flatMap f ++ zs).toArray).heap b e ((l.set i u).flatMap f ++ zs) := by
    unfold Vr at hV ⊢
    rw [setRow_heap w b _ _ e _ hV]
  refine TL.op0 (w' := w.setRow b ((l.set i u).flatMap f ++ zs).toArray) (fun ρ hρ => ?_) (K _ (hF.store hL hn (upd_setRow _ _ _) hV'))
  have e0 : Go.Eng.look σ x = some (.pointer (some ⟨b, i * k, none⟩)) := by rw [hx]; simp [elemA, add_mk]
  simp [execOp, hρ x _ e0, hρ y _ hy, Instr.storeAt, Instr.sureAddr, storeVar, sizeOf, typeInfo, hii, hsz', Value.cells, hw]
  rw [hst]
  simp
def ilv : List IV → List IV → List IV
  | x :: xs, y :: ys => x :: y :: ilv xs ys
  | _, _ => []
theorem ilv_snoc : ∀ {xs ys : List IV} {x y : IV}, xs.length = ys.length → ilv (xs ++ [x]) (ys ++ [y]) = ilv xs ys ++ [x, y]
  | [], [], _, _, _ => rfl
  | _ :: xs, _ :: ys, _, _, h => by
    simp only [List.cons_append, ilv]
    rw [ilv_snoc (by simpa using h)]
  | [], _ :: _, _, _, h => by simp at h
  | _ :: _, [], _, _, h => by simp at h
theorem ilv_perm : ∀ {xs ys : List IV}, xs.length = ys.length → (xs ++ ys).Perm (ilv xs ys)
  | [], [], _ => List.Perm.refl _
  | x :: xs, y :: ys, h => by
    simp only [List.cons_append, ilv]
    refine (List.Perm.cons x ?_)
    exact List.perm_middle.trans ((ilv_perm (by simpa using h)).cons y)
  | [], _ :: _, h => by simp at h
  | _ :: _, [], h => by simp at h
theorem ilv_len : ∀ {xs ys : List IV}, xs.length = ys.length → (ilv xs ys).length = 2 * xs.length
  | [], [], _ => rfl
  | x :: xs, y :: ys, h => by
    have := ilv_len (xs := xs) (ys := ys) (by simpa using h)
    simp only [ilv, List.length_cons, this]; omega
  | [], _ :: _, h => by simp at h
  | _ :: _, [], h => by simp at h
end Go.Eng
namespace Go.Proofs.YtlpheckjogphmaaGreat
open Go Go.Eng Go.Proofs Go.NatM Go.RowKit
theorem OwL.book {w w' : World} {lo : Nat} {l : List IV} {x : BK} (h : OwL w.heap lo l) (hp : x.p w.heap) (hX : Exs x.fp w w') : OwL w'.heap lo l := h.eqv fun y hy k hk hl => hX.block k hl fun hf => by
  have h1 := Ow.ty (h.1 y hy) hk
  rcases hf with rfl | hf | hf
  · exact ty_ne (by decide) h1 (Vr.ty hp.1)
  · exact ty_ne (by decide) h1 (Ow.ty hp.2.1 hf)
  · exact ty_ne (by decide) h1 (Ow.ty hp.2.2 hf)
theorem owL_book {H : Array Obj} {lo K : Nat} {T : List IV} (h : OwL H lo T) : (dkB (T.map (·.m)) (fun i => (saA (T.map (·.m)) i).l)).p H ∧ Own (T.map (·.m)) := by
  have hget : ∀ i, i < T.length → saA (T.map (·.m)) i = (T.getD i default).m := fun i hi => by
    simp [saA, List.getD, List.getElem?_eq_getElem hi]
  have hmem : ∀ i, i < T.length → T.getD i default ∈ T := fun i hi => by simp [List.getD, List.getElem?_eq_getElem hi]
  refine ⟨fun i hi => ?_, fun i j hi hj hij k h1 h2 => ?_⟩
  · rw [List.length_map] at hi
    show Ow u64v H 0 64 (saA (T.map (·.m)) i).A (saA (T.map (·.m)) i).n (saA (T.map (·.m)) i).c (saA (T.map (·.m)) i).l
    rw [hget i hi]
    exact (h.1 _ (hmem i hi)).mono (Nat.zero_le _)
  · rw [List.length_map] at hi hj
    rw [hget i hi] at h1
    rw [hget j hj] at h2
    have hp := List.pairwise_iff_getElem.1 h.2
    have g1 : T.getD i default = T[i] := by simp [List.getD, List.getElem?_eq_getElem hi]
    have g2 : T.getD j default = T[j] := by simp [List.getD, List.getElem?_eq_getElem hj]
    rw [g1] at h1
    rw [g2] at h2
    rcases Nat.lt_or_gt_of_ne hij with h' | h'
    · exact hp i j hi hj h' k h1 h2
    · exact hp j i hj hi h' k h2 h1
theorem of9_ok (w : World) : Cl Tryz.prog 11 #[.int .i64 9] w (RetZ w 9 1) := by
  refine enter Tryz.func11 rfl rfl rfl ?_
  repeat' (first | refine TL.ev (ev_simple rfl) rfl ?_ | (refine TL.call rfl rfl ?_; first | (refine (least_ok _ _ _ _ _ _ hSn (U64.one (by omega)) (by omega)).mono ?_; rintro _ wl ⟨Al, nl, cl, rfl, hOl, hEl, hKl⟩; refine Back.mk ?_; have hSl := hOl.sl (Nat.le_refl _); have hzl := hEl.size) | (refine (of_ok _ _ _ _ _ _ hSl).mono ?_; rintro _ wo ⟨rfl, hLo, hEo⟩; refine Back.mk ?_; have hzo := hEo.size)) | (refine TL.cmpG rfl rfl rfl rfl (fun hc => ?_) (fun hc => ?_) <;> try (exfalso; omega)) | refine TL.ev (ev_convU rfl (by omega)) rfl ?_ | (refine TL.build1U rfl rfl (fun wn bn ebn hBn hEn hzn => ?_); have hSn := hBn.slN (n := 1) (c := 1) rfl (Nat.le_refl _) hBn.lt) | (refine TL.alloc rfl (fun wa ba eba hVa hEa hza => ?_); have hla := box_lo (w0 := w) (by repeat (first | exact Ext.refl _ | (refine Ext.trans ?_ (by assumption)) | (apply ext_upd; assumption; rotate_left; omega))) eba) | (refine TL.storeVX rfl rfl rfl rfl (by refine ⟨?_, ?_⟩; (focus (repeat (first | assumption | (apply Vr.ext; assumption) | (apply Vr.updX; assumption; rotate_left; omega)))); rfl) (fun ws hVs hUs hzs => ?_)) | refine T.seq ?_ | refine T.region ?_ | refine TL.nil ?_ | refine T.cond_f rfl ?_ | refine T.ret ?_ | refine T.skip ?_ | refine G.next ?_)
  exact G.retC1 rfl rfl (held_agg hVs rfl) ⟨_, rfl, LI.updV hUs (by repeat (first | assumption | (apply Vr.ext; assumption) | (apply Vr.updX; assumption; rotate_left; omega))) rfl hLo, (by repeat (first | exact Ext.refl _ | (refine Ext.trans ?_ (by assumption)) | (apply ext_upd; assumption; rotate_left; omega))), hKl⟩
end Go.Proofs.YtlpheckjogphmaaGreat
set_option linter.unusedSectionVars false
namespace Go.Eng
open Go Go.Proofs Go.NatM Go.RowKit Go.Proofs.YtlpheckjogphmaaGreat
def CopL (xl : List IV) (i : Nat) (l : List IV) : Prop := l.length = i ∧ ∀ q, q < i → (l.getD q default).neg = (xl.getD q default).neg ∧ (l.getD q default).m.l = (xl.getD q default).m.l ∧ (l.getD q default).m.n = (xl.getD q default).m.n
theorem CopL.snoc {xl l : List IV} {i : Nat} {u : IV} (h : CopL xl i l) (hu : u.neg = (xl.getD i default).neg ∧ u.m.l = (xl.getD i default).m.l ∧ u.m.n = (xl.getD i default).m.n) : CopL xl (i + 1) (l ++ [u]) := by
  refine ⟨by rw [List.length_append, h.1]; rfl, fun q hq => ?_⟩
  by_cases e : q = i
  · subst e
    have e1 : (l ++ [u]).getD q default = u := by
      have := h.1
      simp only [List.getD]
      rw [List.getElem?_append_right (by omega), this, Nat.sub_self]; rfl
    rw [e1]; exact hu
  · have e1 : (l ++ [u]).getD q default = l.getD q default := by
      have := h.1
      simp only [List.getD]
      rw [List.getElem?_append_left (by omega)]
    rw [e1]; exact h.2 q (by omega)
theorem CopL.ival {xl l : List IV} {i q : Nat} (h : CopL xl i l) (hq : q < i) : Go.Proofs.YtlpheckjogphmaaGreat.ival (l.getD q default) = Go.Proofs.YtlpheckjogphmaaGreat.ival (xl.getD q default) := by
  obtain ⟨h1, h2, _⟩ := h.2 q hq
  unfold Go.Proofs.YtlpheckjogphmaaGreat.ival
  rw [h1, h2]
end Go.Eng
namespace Go.Proofs.YtlpheckjogphmaaGreat
open Go Go.Eng Go.Proofs Go.NatM Go.RowKit
theorem OwL.gi {H : Array Obj} {lo : Nat} {l : List IV} {x : IV} (h : OwL H lo l) (hx : x ∈ l) (hu : U64 x.m.l) : GI H x := ⟨(h.1 x hx).sl (Nat.le_refl _), hu⟩
theorem cop_gm {H H0 : Array Obj} {r c K k lo xk : Nat} {A xA : Option Addr} {l xl : List IV} (h : CopL xl (r * c) l) (gx : GM H0 ⟨r, c, xA, r * c, xk, xl⟩ r c K) (hS : Sm 2 ivc H H.size A (r * c) k l) (hO : OwL H lo l) : GM H ⟨r, c, A, r * c, k, l⟩ r c K := by
  refine ⟨⟨rfl, rfl, gx.sh.r64, gx.sh.c64, rfl⟩, hS, fun y hy => ?_⟩
  obtain ⟨q, hq, e⟩ := List.getElem_of_mem hy
  have hq' : q < r * c := by rw [h.1] at hq; exact hq
  have hx : xl.getD q default ∈ xl := by
    have := gx.s.len
    dsimp only at this
    simp [List.getD, List.getElem?_eq_getElem (show q < xl.length by omega)]
  have e2 : l.getD q default = y := by simp [List.getD, List.getElem?_eq_getElem hq, e]
  obtain ⟨h1, h2, h3⟩ := h.2 q hq'
  rw [e2] at h1 h2 h3
  have g := gx.g _ hx
  exact ⟨OwL.gi hO hy (by rw [h2]; exact g.1.u), by rw [h3]; exact g.2⟩
theorem cop_big {xl l : List IV} {n : Nat} (h : CopL xl n l) (hn : xl.length = n) (hb : ∀ y ∈ xl, ¬ big y) : ∀ y ∈ l, ¬ big y := fun y hy => by
  obtain ⟨q, hq, e⟩ := List.getElem_of_mem hy
  have hq' : q < n := by rw [h.1] at hq; exact hq
  have hx : xl.getD q default ∈ xl := by simp [List.getD, List.getElem?_eq_getElem (show q < xl.length by omega)]
  have e2 : l.getD q default = y := by simp [List.getD, List.getElem?_eq_getElem hq, e]
  have h2 := (h.2 q hq').2.1
  rw [e2] at h2
  have := hb _ hx
  unfold big at this ⊢
  rw [h2]; exact this
theorem cop_of (w : World) {H0 : Array Obj} {r c k lo xk : Nat} {A xA : Option Addr} {l xl : List IV} (h : CopL xl (r * c) l) (gx : GM H0 ⟨r, c, xA, r * c, xk, xl⟩ r c 1048576) (hb : ∀ y ∈ xl, ¬ big y) (hS : Sm 2 ivc w.heap w.heap.size A (r * c) k l) (hO : OwL w.heap lo l) :
    Cl Tryz.prog 8 #[.agg #[.int .i64 (r : Int), .int .i64 (c : Int), .slice A (r * c) k]] w (RetOfP w r c (rowsF (ent ⟨r, c, xA, r * c, xk, xl⟩ c) c r 0)) := by
  have h1 := ofP w ⟨r, c, A, r * c, k, l⟩ r c (cop_gm h gx hS hO) (cop_big h gx.s.len hb)
  have e : rowsF (ent ⟨r, c, A, r * c, k, l⟩ c) c r 0 = rowsF (ent ⟨r, c, xA, r * c, xk, xl⟩ c) c r 0 := rowsF_congr fun i j hi hj => by
    unfold ent
    exact h.ival (place_lt hi hj)
  rw [e] at h1
  exact h1
theorem chRowAny (w : World) (g m r c N : Nat) (Z : ZF) (i j : Int) (x : IV) (hG : GZ w.heap g m r c Z N) (hin : InRC r c Z) (hrc : r * c ≤ 4096) (hi : 0 ≤ i ∧ i < (r : Int)) (hj : 0 ≤ j ∧ j < (r : Int)) (hx : GI w.heap x) (hxn : x.m.n ≤ 1073741824) :
    Cl Tryz.prog 13 #[.pointer (some ⟨g, 0, none⟩), .int .i64 i, .int .i64 j, ivA x] w (fun e w' => ∃ er Z' N', e = .returned (.int .i64 er) ∧ Exs (fun k => k = m) w w' ∧ GZ w'.heap g m r c Z' N') := by
  refine (chRow w g m r c N Z i j x hG hin hrc hi hj hx hxn).mono ?_
  rintro e w' (⟨_, N', h⟩ | ⟨_, N', h⟩)
  · exact ⟨_, _, N', h⟩
  · exact ⟨_, _, N', h⟩
theorem chRowP0 (P : Nat → Prop) (w : World) (g m r c N : Nat) (Z : ZF) (i j : Int) (x : IV) (hG : GZP P w.heap g m r c Z N) (hin : InRC r c Z) (hrc : r * c ≤ 4096) (hi : 0 ≤ i ∧ i < (r : Int)) (hj : 0 ≤ j ∧ j < (r : Int)) (hx : GI w.heap x) (hxn : x.m.n ≤ 1073741824) (hb : ∀ k, ¬ bigZ (rowF Z i j (ival x) k)) :
    Cl Tryz.prog 13 #[.pointer (some ⟨g, 0, none⟩), .int .i64 i, .int .i64 j, ivA x] w (RetChP P w g m r c (rowF Z i j (ival x)) 0) := by
  refine (chRowP P w g m r c N Z i j x hG hin hrc hi hj hx hxn).mono ?_
  rintro e w' (⟨⟨k, hk⟩, _⟩ | ⟨_, h⟩)
  · exact absurd hk (hb k)
  · exact h
theorem Fr.reGZ {S : Nat → Prop} {w0 w : World} {L : List VB} {D : List DP} {P P' : Nat → Prop} {g m r c N : Nat} {Z : ZF} (hF : Fr w0 w L (dpGZP P g m r c Z N :: D) S) (h : GZP P' w.heap g m r c Z N) : Fr w0 w L (dpGZP P' g m r c Z N :: D) S :=
  (hF.weak (List.Sublist.refl _) (fun d hd => List.mem_cons_of_mem _ hd)).add _ (by unfold dpGZP; exact h) fun v hv hk => hF.apart v hv _ (List.mem_cons_self ..) (by unfold dpGZP at hk ⊢; exact hk)
theorem Fr.downGZ {S : Nat → Prop} {w0 w : World} {L : List VB} {D : List DP} {P : Nat → Prop} {g m r c N : Nat} {Z : ZF} (hF : Fr w0 w L (dpGZP P g m r c Z N :: D) S) : Fr w0 w L (dpGZ g m r c Z N :: D) S :=
  (hF.weak (List.Sublist.refl _) (fun d hd => List.mem_cons_of_mem _ hd)).add _ (by unfold dpGZ; exact (hF.gzp (List.mem_cons_self ..)).gz) fun v hv hk => hF.apart v hv _ (List.mem_cons_self ..) (by unfold dpGZ at hk; unfold dpGZP; exact hk)
theorem Fr.addDn {w0 w w' : World} {L : List VB} {D : List DP} {b r c K lo : Nat} {l T : List IV} {F : Nat → Nat → Int} (hF : Fr w0 w L D) (hr : r ≤ 64) (hc : c ≤ 64) (hE : Ext w w') (hb : w.heap.size ≤ b) (hV : Vr w'.heap b 27 (l.flatMap ivc)) (hl : l.length = r * c) (h : ∀ i j, i < r → j < c → LI w'.heap (F i j) (l.getD (i * c + j) default) ∧ (l.getD (i * c + j) default).m.n ≤ K) (hO : OwL w'.heap lo T) (ht : (L.all fun v => !(v.t == 64)) = true := by rfl) :
    Fr w0 w' L (dpOwL lo T :: dpLM ⟨(r : Int), (c : Int), some ⟨b, 0, none⟩, r * c, r * c, l⟩ r c F K :: dpCb b 27 (l.flatMap ivc) :: D) := by
  have h1 := hF.addNew hE (dpCb b 27 (l.flatMap ivc)) (by unfold dpCb; exact hV) fun k hk => by unfold dpCb at hk; rw [hk]; exact hb
  have h2 := h1.add (dpLM ⟨(r : Int), (c : Int), some ⟨b, 0, none⟩, r * c, r * c, l⟩ r c F K) (by unfold dpLM; exact LM.ofB hr hc hV hl h) fun v hv hk => h1.apart v hv _ (List.mem_cons_self ..) (by
    unfold dpLM at hk
    obtain ⟨_, o, e⟩ := hk
    cases e
    unfold dpCb; rfl)
  exact h2.addOwL hO ht
theorem Fr.addPs {w0 w w' : World} {L : List VB} {D : List DP} {b lo : Nat} {ls : GL} {cs : List Value} {T : List IV} (hF : Fr w0 w L D) (hE : Ext w w') (hb : w.heap.size ≤ b) (hV : Vr w'.heap b 57 cs) (hv : ∀ p ∈ ls, LI w'.heap (ival p.2) p.2 ∧ p.2.m.n ≤ 16384) (hO : OwL w'.heap lo T) (ht : (L.all fun v => !(v.t == 64)) = true := by rfl) :
    Fr w0 w' L (dpOwL lo T :: dpGv ls :: dpCb b 57 cs :: D) :=
  (Fr.addGv (hF.addNew hE (dpCb b 57 cs) (by unfold dpCb; exact hV) fun k hk => by unfold dpCb at hk; rw [hk]; exact hb) hv).addOwL hO ht
theorem OwL.spoil {w w' : World} {lo : Nat} {x : IV} {T : List IV} (h : OwL w.heap lo (x :: T)) (hX : Exs (fun k => x.m.A = some ⟨k, 0, none⟩) w w') : OwL w'.heap lo T :=
  OwL.eqv (⟨fun y hy => h.1 y (List.mem_cons_of_mem _ hy), (List.pairwise_cons.1 h.2).2⟩ : OwL w.heap lo T) fun y hy k hk hl => hX.block k hl fun e => (List.pairwise_cons.1 h.2).1 y hy k e hk
theorem Fr.spoil3 {w w1 w2 : World} {L : List VB} {D : List DP} {t1 t2 g m r c N K r2 c2 : Nat} {Z : ZF} {y : IV} {T : List IV} {x : MV} {F : Nat → Nat → Int} (hF : Fr w w1 L D) (hd1 : dpOwL t1 (y :: T) ∈ D) (hd2 : dpGZP (fun k => t2 ≤ k) g m r c Z N ∈ D) (hd3 : dpLM x r2 c2 F K ∈ D) (hwt : w.heap.size ≤ t1) (hlo : ∀ k, blk y.m.A k → k < t2) (hup : MP (fun k => k < t1) x) (hg : t2 ≤ g) (hm : t2 ≤ m) (hX : Exs (fun k => y.m.A = some ⟨k, 0, none⟩) w1 w2) (ht : (L.all fun v => !(v.t == 64)) = true := by rfl) :
    Fr w w2 L [dpOwL t1 T, dpGZP (fun k => t2 ≤ k) g m r c Z N, dpLM x r2 c2 F K] := by
  have hO := Fr.owL hF hd1
  have hOy := hO.1 _ (List.mem_cons_self ..)
  have hG := Fr.gzp hF hd2
  have hL := Fr.lm hF hd3
  have hne : ∀ k, y.m.A = some ⟨k, 0, none⟩ → t1 ≤ k ∧ k < t2 := fun k hk => ⟨hOy.loZ hk, hlo k hk⟩
  exact Fr.spoilt hF (fun k hk => Nat.le_trans hwt (hne k hk).1) (Fr.noWords hF hOy ht) hX (fun d hd => by
    simp only [List.mem_cons, List.not_mem_nil, or_false] at hd
    rcases hd with rfl | rfl | rfl
    · exact ⟨by unfold dpOwL; exact OwL.spoil hO hX, _, hd1, fun k hk => by unfold dpOwL at hk ⊢; obtain ⟨x, hx, hk⟩ := hk; exact ⟨x, List.mem_cons_of_mem _ hx, hk⟩⟩
    · exact ⟨by unfold dpGZP; exact hG.same hX.size (hX.block g hG.gz.lt.1 (fun e => by have := hne _ e; omega)) (hX.block m hG.gz.lt.2 (fun e => by have := hne _ e; omega)) (fun k (hk : t2 ≤ k) hl => hX.block k hl fun e => by have := hne _ e; omega), _, hd2, fun _ h => h⟩
    · exact ⟨by unfold dpLM; exact LM.sameP hL hup hX.size (fun k (hk : k < t1) hl => hX.block k hl fun e => by have := hne _ e; omega), _, hd3, fun _ h => h⟩)
theorem Fr.spoil2 {w w1 w2 : World} {L : List VB} {D : List DP} {lo g m r c N K r2 c2 bx : Nat} {Z : ZF} {y : IV} {x : MV} {F : Nat → Nat → Int} (hF : Fr w w1 L D) (hy : y.m.A = some ⟨bx, 0, none⟩) (hd1 : dpOwL lo [y] ∈ D) (hd2 : dpGZP (fun k => k ≠ bx) g m r c Z N ∈ D) (hd3 : dpLM x r2 c2 F K ∈ D) (hwt : w.heap.size ≤ lo) (hup : MP (fun k => k ≠ bx) x) (hg : g ≠ bx) (hm : m ≠ bx) (hX : Exs (fun k => y.m.A = some ⟨k, 0, none⟩) w1 w2) (ht : (L.all fun v => !(v.t == 64)) = true := by rfl) :
    Fr w w2 L [dpGZP (fun k => k ≠ bx) g m r c Z N, dpLM x r2 c2 F K] := by
  have hO := Fr.owL hF hd1
  have hOy := hO.1 _ (List.mem_cons_self ..)
  have hG := Fr.gzp hF hd2
  have hL := Fr.lm hF hd3
  have hne : ∀ k, y.m.A = some ⟨k, 0, none⟩ → k = bx := fun k hk => by rw [hy] at hk; cases hk; rfl
  exact Fr.spoilt hF (fun k hk => Nat.le_trans hwt (hOy.loZ hk)) (Fr.noWords hF hOy ht) hX (fun d hd => by
    simp only [List.mem_cons, List.not_mem_nil, or_false] at hd
    rcases hd with rfl | rfl
    · exact ⟨by unfold dpGZP; exact hG.same hX.size (hX.block g hG.gz.lt.1 (fun e => hg (hne _ e))) (hX.block m hG.gz.lt.2 (fun e => hm (hne _ e))) (fun k (hk : k ≠ bx) hl => hX.block k hl fun e => hk (hne _ e)), _, hd2, fun _ h => h⟩
    · exact ⟨by unfold dpLM; exact LM.sameP hL hup hX.size (fun k (hk : k ≠ bx) hl => hX.block k hl fun e => hk (hne _ e)), _, hd3, fun _ h => h⟩)
theorem notblk {xs : Bool} {b m n c : Nat} {l : List Nat} (h : m ≠ b) : ∀ x ∈ [(⟨xs, ⟨some ⟨b, 0, none⟩, n, c, l⟩⟩ : IV)], ¬ blk x.m.A m := fun x hx hk => by
  rw [List.mem_singleton] at hx
  subst hx
  have hk : some (⟨b, 0, none⟩ : Addr) = some ⟨m, 0, none⟩ := hk
  cases hk
  exact h rfl
def wsI (la lb : List IV) (lp lq : GL) (i : Nat) : List (SA Nat) := la.map (·.m) ++ lb.map (·.m) ++ (ilv ((lp.take i).map (·.2)) ((lq.take i).map (·.2))).map (·.m)
theorem wsI_zero (la lb : List IV) (lp lq : GL) : wsI la lb lp lq 0 = la.map (·.m) ++ lb.map (·.m) := by simp [wsI, ilv]
theorem wsI_succ {la lb : List IV} {lp lq : GL} {i : Nat} {p q : (Int × Int) × IV} (hp : lp[i]? = some p) (hq : lq[i]? = some q) : wsI la lb lp lq (i + 1) = wsI la lb lp lq i ++ [p.2.m] ++ [q.2.m] := by
  have h1 := (List.getElem?_eq_some_iff.1 hp).1
  have h2 := (List.getElem?_eq_some_iff.1 hq).1
  unfold wsI
  have e1 : lp.take (i + 1) = lp.take i ++ [p] := by rw [List.take_add_one, hp]; rfl
  have e2 : lq.take (i + 1) = lq.take i ++ [q] := by rw [List.take_add_one, hq]; rfl
  rw [e1, e2, List.map_append, List.map_append, List.map_singleton, List.map_singleton, ilv_snoc (by simp; omega), List.map_append]
  simp [List.append_assoc]
theorem wsI_all {la lb : List IV} {lp lq : GL} {N : Nat} (hp : lp.length = N) (hq : lq.length = N) : wsI la lb lp lq N = (la ++ lb ++ ilv (lp.map (·.2)) (lq.map (·.2))).map (·.m) := by
  unfold wsI
  rw [List.take_of_length_le (by omega), List.take_of_length_le (by omega), List.map_append, List.map_append]
theorem wsI_len {la lb : List IV} {lp lq : GL} {N i : Nat} (hp : lp.length = N) (hq : lq.length = N) (hi : i ≤ N) : (wsI la lb lp lq i).length = la.length + lb.length + 2 * i := by
  unfold wsI
  rw [List.length_append, List.length_append, List.length_map, List.length_map, List.length_map, ilv_len (by simp; omega)]
  simp; omega
theorem own_i {H : Array Obj} {b n : Nat} {l : List IV} (hV : Vr H b 27 (l.flatMap ivc)) (hl : l.length = n) : OwI H (some ⟨b, 0, none⟩) n n l := ⟨hl, .inr ⟨b, [], rfl, Nat.le_refl _, by simp, rfl, by rw [List.append_nil]; exact hV⟩⟩
theorem Fr.cb {S : Nat → Prop} {w0 w : World} {L : List VB} {D : List DP} {b : Nat} {t : TypeId} {cs : List Value} (hF : Fr w0 w L D S) (h : dpCb b t cs ∈ D) : Vr w.heap b t cs := by have := hF.data _ h; unfold dpCb at this; exact this
theorem LM.short {H : Array Obj} {x : MV} {r c K : Nat} {F : Nat → Nat → Int} (h : LM H x r c F K) : ∀ y ∈ x.l, y.m.n ≤ K := fun y hy => by
  have hl := h.s.len
  have hn := h.sh.n
  obtain ⟨q, hq, e⟩ := List.getElem_of_mem hy
  have hqn : q < r * c := by omega
  have hc : 0 < c := Nat.pos_of_ne_zero fun e => by rw [e, Nat.mul_zero] at hqn; omega
  have h1 := (h.g (q / c) (q % c) ((Nat.div_lt_iff_lt_mul hc).2 hqn) (Nat.mod_lt _ hc)).2
  rw [Nat.mul_comm, Nat.div_add_mod] at h1
  have e2 : x.l.getD q default = y := by simp [List.getD, List.getElem?_eq_getElem hq, e]
  rw [e2] at h1; exact h1
theorem apart2 (w : World) (x : BK) (T la lb : List IV) (ba bb n K lo : Nat) (h : x.p w.heap) (hw : x.ws = T.map (·.m)) (hi : x.is = [⟨some ⟨ba, 0, none⟩, n, n, la⟩, ⟨some ⟨bb, 0, none⟩, n, n, lb⟩]) (hT : OwL w.heap lo T) (hK : ∀ y ∈ T, y.m.n ≤ K) (hK2 : K ≤ 1099511627776) (hTn : T.length ≤ 4294967296) (hn : n ≤ 1099511627776)
    (hVa : Vr w.heap ba 27 (la.flatMap ivc)) (hVb : Vr w.heap bb 27 (lb.flatMap ivc)) (hla : la.length = n) (hlb : lb.length = n) (hab : ba ≠ bb) (hba : lo ≤ ba) (hbb : lo ≤ bb) :
    Cl Tryz.prog 22 #[.pointer (some ⟨x.bb, 0, none⟩)] w (fun e w' => e = .returned (.bool true) ∧ Exs (fun k => lo ≤ k ∧ ((∃ cur, w.heap[k]? = some (.cells cur 64 (0, 0))) ∨ ∃ cur, w.heap[k]? = some (.cells cur 27 (0, 0)))) w w') := by
  obtain ⟨xb, WA, wc, ws, IA, ic, is⟩ := x
  dsimp only at hw hi h ⊢
  subst hw hi
  obtain ⟨h1, h2⟩ := owL_book (K := K) hT
  have own : ∀ (b : Nat) (l : List IV), Vr w.heap b 27 (l.flatMap ivc) → l.length = n → OwI w.heap (some ⟨b, 0, none⟩) n n l := fun b l hV hl => ⟨hl, .inr ⟨b, [], rfl, Nat.le_refl _, by simp, rfl, by rw [List.append_nil]; exact hV⟩⟩
  have cases2 : ∀ i, i < 2 → i = 0 ∨ i = 1 := fun i hi => by omega
  refine (apart_ok w ⟨xb, WA, wc, T.map (·.m), IA, ic, [⟨some ⟨ba, 0, none⟩, n, n, la⟩, ⟨some ⟨bb, 0, none⟩, n, n, lb⟩]⟩ h h1 (fun i hi => ?_) h2 (fun i j hi hj hij k => ?_) (by rw [List.length_map]; exact hTn) (by show 2 ≤ 4294967296; omega) (fun i hi => ?_) (fun i hi => ?_)).mono ?_
  · rcases cases2 i hi with rfl | rfl
    · exact own ba la hVa hla
    · exact own bb lb hVb hlb
  · rcases cases2 i hi with rfl | rfl <;> rcases cases2 j hj with rfl | rfl
    · exact absurd rfl hij
    · exact fun e1 e2 => hab (by cases e1; cases e2; rfl)
    · exact fun e1 e2 => hab (by cases e1; cases e2; rfl)
    · exact absurd rfl hij
  · rw [List.length_map] at hi
    have e : saA (T.map (·.m)) i = (T.getD i default).m := by simp [saA, List.getD, List.getElem?_eq_getElem hi]
    have hm : T.getD i default ∈ T := by simp [List.getD, List.getElem?_eq_getElem hi]
    rw [e]
    exact Nat.le_trans (hK _ hm) hK2
  · rcases cases2 i hi with rfl | rfl
    · exact hn
    · exact hn
  · rintro e w' ⟨rfl, hX⟩
    refine ⟨rfl, hX.mono fun k hk hS => ?_⟩
    rcases hS with ⟨i, hi, hb⟩ | ⟨i, hi, hb⟩
    · rw [List.length_map] at hi
      have e : saA (T.map (·.m)) i = (T.getD i default).m := by simp [saA, List.getD, List.getElem?_eq_getElem hi]
      have hm : T.getD i default ∈ T := by simp [List.getD, List.getElem?_eq_getElem hi]
      rw [e] at hb
      exact ⟨hT.lo hm hb, .inl (Ow.ty (hT.1 _ hm) hb)⟩
    · rcases cases2 i hi with rfl | rfl
      · have hb : some (⟨ba, 0, none⟩ : Addr) = some ⟨k, 0, none⟩ := hb
        cases hb; exact ⟨hba, .inr (Vr.ty hVa)⟩
      · have hb : some (⟨bb, 0, none⟩ : Addr) = some ⟨k, 0, none⟩ := hb
        cases hb; exact ⟨hbb, .inr (Vr.ty hVb)⟩
end Go.Proofs.YtlpheckjogphmaaGreat
