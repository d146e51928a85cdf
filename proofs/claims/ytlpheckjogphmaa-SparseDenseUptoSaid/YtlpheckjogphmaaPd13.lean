/- Layer 9: Pick. Layer 10: the law's unit; mat.Least with its block known whole. Opening matrices handed in, with the range of their numbers. An argument as the engine has it: []Act (changes of a grid). Layer 10: a change of a dense matrix: the law's dense. -/
import Derived.Test.YtlpheckjogphmaaPd12
import Derived.Test.YtlpheckjogphmaaPd8
set_option linter.unusedVariables false
set_option linter.unusedSimpArgs false
namespace Go.Proofs.Ytlpheckjogphmaa
open Go Go.Eng Go.Proofs Go.NatM Go.RowKit

theorem ev_loadIz {P : Program} {σ : Store} {H : Array Obj} {d : Option Tmp} {t : TypeId} {pos : String} {af : Array Edge} {gd : Option (Nat × Bool)} {x : Operand} {ty : TypeId} [hO : UOne P ty] {B n c k : Nat} {A : Option Addr} {l : List Int} {z : Int}
    (hx : Eng.look σ x = some (.pointer (elemA A k))) (hs : Sl i64v H B A n c l) (hk : k < n) (e : l.getD k 0 = z) : Ev P σ H ⟨d, .load ty x, t, pos, af, gd⟩ (.int .i64 z) := e ▸ ev_loadI hx hs hk
set_option maxRecDepth 100000 in
set_option maxHeartbeats 8000000 in
theorem pick1_ok (w : World) (x : MV) (r c K : Nat) (gx : GM w.heap x r c K) (hK : K ≤ 35184372088832) (B B' : Option Addr) (m q m' q' : Nat) (lr lc : List Int) (hsr : Sl i64v w.heap w.heap.size B m q lr) (hsc : Sl i64v w.heap w.heap.size B' m' q' lc)
    (pa pb pc : Nat) (hVa : Vr w.heap pa 24 (mvc x)) (hVb : Vr w.heap pb 125 [.slice B m q]) (hVc : Vr w.heap pc 125 [.slice B' m' q']) (i j zi zj : Nat) (hi : i < m) (hj : j < m') (ei : lr.getD i 0 = (zi : Int)) (ej : lc.getD j 0 = (zj : Int)) (hzi : zi < r) (hzj : zj < c) (him : m ≤ 1048576) (hjm : m' ≤ 1048576) :
    Cl Try.prog 92 ([Value.int .i64 (i : Int), Value.int .i64 (j : Int)] ++ [Value.pointer (some ⟨pa, 0, none⟩), Value.pointer (some ⟨pb, 0, none⟩), Value.pointer (some ⟨pc, 0, none⟩)]).toArray w (RetZ w (ent x c zi zj) K) := by
  have hp := place_lt hzi hzj
  have hs0 := gx.sh
  have hs := gx.s
  obtain ⟨xr, xc, A1, n1, k1, l1⟩ := x
  obtain ⟨hr1, hc1, hr, hcc, hn1⟩ := hs0
  dsimp only at hr1 hc1 hn1 hs
  subst hr1 hc1 hn1
  have hm := mul64 hr hcc
  have hlen := hs.len
  have y1 : l1[zi * c + zj]? = some (l1.getD (zi * c + zj) default) := by simp [List.getD, show zi * c + zj < l1.length by omega]
  obtain ⟨g1, n1⟩ := gx.g _ (List.mem_of_getElem? y1)
  have hent : ent ⟨r, c, A1, r * c, k1, l1⟩ c zi zj = ival (l1.getD (zi * c + zj) default) := rfl
  rw [hent]
  generalize l1.getD (zi * c + zj) default = y at *
  have hz := fun w1 (hE : Ext w w1) => zleast_ok w1 y (g1.ext hE) (by omega)
  refine enter Try.func92 rfl rfl rfl ?_
  have hF := Fr.refl w
  repeat' (first | (refine TL.isOp ?_; first | (refine TL.isCall ?_; refine TL.call rfl rfl ?_; first | (refine (hz _ hF.ext).mono ?_; rintro _ w1 ⟨z, rfl, hL, hE, hK⟩; replace hF := Fr.addLI (hF.exts hE) hL; clear hE hL; refine Back.mk ?_)) | (refine TL.storeAFr hF rfl rfl rfl rfl (by refine ⟨?_, ?_⟩; (focus (repeat (first | apply SetV.head | apply SetV.tail))); rfl) rfl ?_; clear hF; intro ws hF) | (refine TL.allocFr hF (d := 7) rfl rfl ?_; clear hF; intro w7 b7 hF)) | (refine TF.is ?_; first | refine TF.nil ?_ | refine TF.e rfl ?_ | (refine TF.pick rfl ?_; first | (apply TFo.ev; (case hd => rfl); (case h => (intro wh hF; first | exact ev_simple rfl | (apply Ev.isBin; first | exact ev_arN rfl rfl rfl (by omega)) | (apply Ev.isLoad; first | exact ev_loadV rfl (hVa.ext hF.ext) rfl | exact ev_loadV rfl (hVb.ext hF.ext) rfl | exact ev_loadV rfl (hVc.ext hF.ext) rfl | exact ev_loadIz rfl (hsr.ext hF.ext) hi ei | exact ev_loadIz rfl (hsc.ext hF.ext) hj ej | exact ev_loadM rfl (hs.ext hF.ext) y1) | exact ev_fieldAddr rfl | exact ev_indexN rfl rfl hi (hsr.ext hF.ext).some | exact ev_indexN rfl rfl hj (hsc.ext hF.ext).some | exact ev_indexM rfl rfl hp (hs.ext hF.ext).some))))) | (refine T.is ?_; first | refine T.seq ?_ | refine T.region ?_ | refine T.ret ?_ | (refine T.regionFt hF 1 17 (.s 0 (.s 1 (.s 2 (.s 3 (.s 4 (.s 5 (.s 6 (.s 7 (.s 8 (.s 9 (.s 10 (.s 11 (.s 12 (.s 13 (.s 14 (.s 15 (.e 16 (.e 17 .nil)))))))))))))))))) mixed (by kernel_rfl) ?_; clear hF; intro wr hF)) | (refine G.is ?_; first | refine G.next ?_ | refine G.only ?_ | refine G.treeEnd rfl ?_ | refine G.tree rfl (by first | exact hF | exact hF.weak (List.sublist_append_right _ _) (by repeat (first | exact allR | apply allT)) | exact hF.weak (by repeat (first | exact List.Sublist.refl _ | apply List.Sublist.cons)) (by repeat (first | exact allR | apply allT)) | exact hF.weak (by repeat (first | exact List.Sublist.refl _ | apply List.Sublist.cons)) (by repeat (first | exact allN | refine allH (by repeat (first | exact memH | apply memT)) ?_))) ?_) | refine TL.nil ?_)
  exact G.retC1 rfl rfl (held_agg (hF.var (by repeat (first | exact InV.head | apply InV.tail))) rfl) ⟨z, rfl, Fr.li hF (by repeat (first | exact memH | apply memT)), hF.ext, by omega⟩
def InL (l : List Int) (r : Nat) : Prop := ∀ z ∈ l, 0 ≤ z ∧ z < (r : Int)
open Classical in
/-- Pick's answer -/
noncomputable def RetPick (w : World) (x : MV) (r c K : Nat) (lr lc : List Int) (e : Ending) (w' : World) : Prop :=
  if InL lr r ∧ InL lc c then (if lr.length ≤ 64 ∧ lc.length ≤ 64 then RetME w lr.length lc.length (fun i j => ent x c (lr.getD i 0).toNat (lc.getD j 0).toNat) K e w' else RetMF w 5 e w') else RetMF w 3 e w'
theorem InL.at {l : List Int} {r i : Nat} (h : InL l r) (hi : i < l.length) : ∃ z : Nat, l.getD i 0 = (z : Int) ∧ z < r ∧ z = (l.getD i 0).toNat := by
  have e : l.getD i 0 = l[i] := by simp [List.getD, hi]
  obtain ⟨h1, h2⟩ := h l[i] (List.getElem_mem hi)
  exact ⟨l[i].toNat, by rw [e]; omega, by omega, by rw [e]⟩
theorem InL.of {l : List Int} {r : Nat} (h : ∀ q, q < l.length → 0 ≤ l.getD q 0 ∧ l.getD q 0 < (r : Int)) : InL l r := by
  intro z hz
  obtain ⟨q, hq⟩ := List.getElem?_of_mem hz
  have hlt := (List.getElem?_eq_some_iff.1 hq).1
  have := h q hlt
  simp only [List.getD, hq, Option.getD_some] at this
  exact this
theorem InL.not {l : List Int} {r q : Nat} (hq : q < l.length) (h : ¬ (0 ≤ l.getD q 0 ∧ l.getD q 0 < (r : Int))) : ¬ InL l r := fun hl => by
  obtain ⟨z, e, hz, _⟩ := hl.at hq
  exact h (by rw [e]; omega)
theorem pick_each {w : World} {x : MV} {r c K : Nat} {lr lc : List Int} {B B' : Option Addr} {m q m' q' pa pb pc : Nat} (hIr : InL lr r) (hIc : InL lc c) (hlr : lr.length = m) (hlc : lc.length = m') (gx : GM w.heap x r c K) (hK : K ≤ 35184372088832) (hsr : Sl i64v w.heap w.heap.size B m q lr) (hsc : Sl i64v w.heap w.heap.size B' m' q' lc)
    (hVa : Vr w.heap pa 24 (mvc x)) (hVb : Vr w.heap pb 125 [.slice B m q]) (hVc : Vr w.heap pc 125 [.slice B' m' q']) (him : m ≤ 1048576) (hjm : m' ≤ 1048576) :
    ∀ (i j : Nat) (w1 : World), i < m → j < m' → Ext w w1 → Cl Try.prog 92 ([Value.int .i64 (i : Int), Value.int .i64 (j : Int)] ++ [Value.pointer (some ⟨pa, 0, none⟩), Value.pointer (some ⟨pb, 0, none⟩), Value.pointer (some ⟨pc, 0, none⟩)]).toArray w1 (RetZ w1 ((fun i' j' => ent x c (lr.getD i' 0).toNat (lc.getD j' 0).toNat) i j) K) := by
  intro i j w1 hi hj hE
  obtain ⟨zi, ei, hzi, e1⟩ := hIr.at (show i < lr.length by omega)
  obtain ⟨zj, ej, hzj, e2⟩ := hIc.at (show j < lc.length by omega)
  dsimp only
  rw [← e1, ← e2]
  exact pick1_ok w1 x r c K (gx.ext hE) hK B B' m q m' q' lr lc (hsr.ext hE).size (hsc.ext hE).size pa pb pc (hVa.ext hE) (hVb.ext hE) (hVc.ext hE) i j zi zj hi hj ei ej hzi hzj him hjm
set_option maxRecDepth 100000 in
set_option maxHeartbeats 8000000 in
theorem mpick_ok (w : World) (x : MV) (r c K : Nat) (gx : GM w.heap x r c K) (hK : K ≤ 35184372088832) (B B' : Option Addr) (m q m' q' : Nat) (lr lc : List Int) (hsr : Sl i64v w.heap w.heap.size B m q lr) (hsc : Sl i64v w.heap w.heap.size B' m' q' lc) (him : m ≤ 1048576) (hjm : m' ≤ 1048576) :
    Cl Try.prog 78 #[.agg (mvc x).toArray, .slice B m q, .slice B' m' q'] w (RetPick w x r c K lr lc) := by
  have hs0 := gx.sh
  have hs := gx.s
  obtain ⟨xr, xc, A1, n1, k1, l1⟩ := x
  obtain ⟨hr1, hc1, hr, hcc, hn1⟩ := hs0
  dsimp only at hr1 hc1 hn1 hs
  subst hr1 hc1 hn1
  have hlr := hsr.len
  have hlc := hsc.len
  refine enter Try.func78 rfl rfl rfl ?_
  have hF := Fr.refl w
  repeat' (first | (refine TL.isOp ?_; first | (refine TL.isCall ?_; refine TL.call rfl rfl ?_; first | (refine (chk_ok _ _ r c gx.sh).mono ?_; rintro _ wy ⟨rfl, hE⟩; replace hF := hF.exts hE; clear hE; refine Back.mk ?_)) | (refine TL.isBin ?_; refine TL.cmpG rfl rfl rfl rfl (fun hc => ?_) (fun hc => ?_) <;> (try (first | (exfalso; omega) | exact absurd rfl hc))) | (apply TL.ev; (case hd => rfl); (case h => (first | exact ev_simple rfl | (apply Ev.isLoad; first | exact ev_loadFr hF rfl (by refine ⟨?_, ?_⟩; (focus (repeat (first | exact InV.head | apply InV.tail))); rfl) | exact ev_loadAFr hF rfl (by refine ⟨?_, ?_⟩; (focus (repeat (first | exact InV.head | apply InV.tail))); rfl)) | exact ev_len rfl))) | (refine TL.boxAFr hF (d := 3) (cs := [.int .i64 (r : Int), .int .i64 (c : Int), .slice A1 (r * c) k1]) rfl rfl ?_; clear hF; intro w3 b3 hF) | (refine TL.boxFr hF (d := 4) (v := .slice B m q) rfl rfl ?_; clear hF; intro w4 b4 hF) | (refine TL.boxFr hF (d := 5) (v := .slice B' m' q') rfl rfl ?_; clear hF; intro w5 b5 hF) | (refine TL.allocFr hF (d := 6) rfl rfl ?_; clear hF; intro w6 b6 hF)) | (refine T.is ?_; first | refine T.seq ?_ | refine T.region ?_ | refine T.block ?_ | refine T.cond_f rfl ?_ | refine T.skip ?_) | (refine G.is ?_; first | refine G.next ?_) | refine TL.nil ?_)
  refine T.loop (α := Nat) (fun i => [(3, .pointer (some ⟨b3, 0, none⟩)), (4, .pointer (some ⟨b4, 0, none⟩)), (5, .pointer (some ⟨b5, 0, none⟩)), (6, .pointer (some ⟨b6, 0, none⟩)), (7, .int .i64 0), (19, .slice B m q), (20, .int .i64 (m : Int)), (21, .int .i64 (i : Int))])
    (fun i w' => i ≤ m ∧ (∀ q, q < i → 0 ≤ lr.getD q 0 ∧ lr.getD q 0 < (r : Int)) ∧ Fr w w' [⟨b6, 24, [.int .i64 0, .int .i64 0, .slice none 0 0]⟩, ⟨b5, 125, [.slice B' m' q']⟩, ⟨b4, 125, [.slice B m q]⟩, ⟨b3, 24, [.int .i64 (r : Int), .int .i64 (c : Int), .slice A1 (r * c) k1]⟩] []) (fun i => m - i) 0 (by repeat (first | exact Sub.nil _ | refine Sub.cons rfl ?_ | refine Sub.cons' rfl (int_congr (by omega)) ?_)) ⟨Nat.zero_le _, fun q hq => absurd hq (Nat.not_lt_zero _), hF⟩ ?_
  clear hF
  rintro i w2 ⟨hi, hq, hF⟩
  rcases Nat.lt_or_ge i m with hin | hin
  · obtain ⟨z, hz⟩ : ∃ z, lr.getD i 0 = z := ⟨_, rfl⟩
    by_cases hzr : 0 ≤ z ∧ z < (r : Int)
    · repeat' (first | (refine TL.isOp ?_; first | (refine TL.isG ?_; first | refine TL.grun rfl rfl rfl ?_) | (refine TL.isBin ?_; refine TL.cmpG rfl rfl rfl rfl (fun hc => ?_) (fun hc => ?_) <;> (try (first | (exfalso; omega) | exact absurd rfl hc))) | (apply TL.ev; (case hd => rfl); (case h => (first | exact ev_simple rfl | (apply Ev.isBin; first | exact ev_arN rfl rfl rfl (by omega)) | (apply Ev.isLoad; first | exact ev_loadFr hF rfl (by refine ⟨?_, ?_⟩; (focus (repeat (first | exact InV.head | apply InV.tail))); rfl) | exact ev_loadIz rfl (hsr.ext hF.ext) hin hz) | exact ev_fieldAddr rfl | exact ev_indexN rfl rfl hin (hsr.ext hF.ext).some)))) | (refine T.is ?_; first | refine T.seq ?_ | refine T.region ?_ | refine T.block ?_ | refine T.cond_t rfl ?_ | refine T.cond_f rfl ?_ | refine T.skip ?_) | (refine G.is ?_; first | refine G.next ?_ | refine G.blockN ?_) | refine TL.nil ?_)
      refine G.again (i + 1) (by repeat (first | exact Sub.nil _ | refine Sub.cons rfl ?_ | refine Sub.cons' rfl (int_congr (by omega)) ?_)) ⟨by omega, fun q hq' => ?_, hF⟩ (by omega)
      rcases Nat.lt_or_ge q i with h | h
      · exact hq q h
      · obtain rfl : q = i := by omega
        rw [hz]; exact hzr
    · have hno : ¬ (InL lr r ∧ InL lc c) := fun h => InL.not (q := i) (by omega) (by rw [hz]; exact hzr) h.1
      repeat' (first | (refine TL.isOp ?_; first | (refine TL.isG ?_; first | refine TL.grun rfl rfl rfl ?_ | refine TL.gskip rfl rfl rfl rfl ?_) | (refine TL.isBin ?_; refine TL.cmpG rfl rfl rfl rfl (fun hc => ?_) (fun hc => ?_) <;> (try (first | (exfalso; omega) | exact absurd rfl hc))) | (apply TL.ev; (case hd => rfl); (case h => (first | exact ev_simple rfl | (apply Ev.isLoad; first | exact ev_loadFr hF rfl (by refine ⟨?_, ?_⟩; (focus (repeat (first | exact InV.head | apply InV.tail))); rfl) | exact ev_loadIz rfl (hsr.ext hF.ext) hin hz) | exact ev_fieldAddr rfl | exact ev_buildX rfl rfl | exact ev_indexN rfl rfl hin (hsr.ext hF.ext).some))) | (refine TL.storeAFr hF rfl rfl rfl rfl (by refine ⟨?_, ?_⟩; (focus (repeat (first | apply SetV.head | apply SetV.tail))); rfl) rfl ?_; clear hF; intro ws hF)) | (refine T.is ?_; first | refine T.seq ?_ | refine T.region ?_ | refine T.block ?_ | refine T.cond_t rfl ?_ | refine T.ret ?_ | refine T.skip ?_) | (refine G.is ?_; first | refine G.next ?_ | refine G.blockR ?_ | refine G.thenR ?_) | refine TL.nil ?_)
      all_goals first | exact G.retC2 rfl rfl rfl (held_agg (hF.var (by repeat (first | exact InV.head | apply InV.tail))) rfl) (by unfold RetPick; rw [if_neg hno]; exact ⟨rfl, hF.ext⟩) | (exfalso; omega)
  obtain rfl : i = m := by omega
  have hIr : InL lr r := InL.of (fun q hq' => hq q (by omega))
  clear hq hi hin
  repeat' (first | (refine TL.isOp ?_; first | (refine TL.isBin ?_; refine TL.cmpG rfl rfl rfl rfl (fun hc => ?_) (fun hc => ?_) <;> (try (first | (exfalso; omega) | exact absurd rfl hc))) | (apply TL.ev; (case hd => rfl); (case h => (first | exact ev_simple rfl | (apply Ev.isLoad; first | exact ev_loadFr hF rfl (by refine ⟨?_, ?_⟩; (focus (repeat (first | exact InV.head | apply InV.tail))); rfl)) | exact ev_len rfl)))) | (refine T.is ?_; first | refine T.seq ?_ | refine T.region ?_ | refine T.block ?_ | refine T.cond_f rfl ?_ | refine T.exit ?_) | (refine G.is ?_; first | refine G.next ?_ | refine G.blockE ?_ | refine G.thenE ?_) | refine TL.nil ?_)
  refine T.loop (α := Nat) (fun j => [(3, .pointer (some ⟨b3, 0, none⟩)), (4, .pointer (some ⟨b4, 0, none⟩)), (5, .pointer (some ⟨b5, 0, none⟩)), (6, .pointer (some ⟨b6, 0, none⟩)), (7, .int .i64 0), (35, .slice B' m' q'), (36, .int .i64 (m' : Int)), (37, .int .i64 (j : Int))])
    (fun j w' => j ≤ m' ∧ (∀ q, q < j → 0 ≤ lc.getD q 0 ∧ lc.getD q 0 < (c : Int)) ∧ Fr w w' [⟨b6, 24, [.int .i64 0, .int .i64 0, .slice none 0 0]⟩, ⟨b5, 125, [.slice B' m' q']⟩, ⟨b4, 125, [.slice B i q]⟩, ⟨b3, 24, [.int .i64 (r : Int), .int .i64 (c : Int), .slice A1 (r * c) k1]⟩] []) (fun j => m' - j) 0 (by repeat (first | exact Sub.nil _ | refine Sub.cons rfl ?_ | refine Sub.cons' rfl (int_congr (by omega)) ?_)) ⟨Nat.zero_le _, fun q hq => absurd hq (Nat.not_lt_zero _), hF⟩ ?_
  clear hF
  rintro j w3 ⟨hj, hq, hF⟩
  rcases Nat.lt_or_ge j m' with hjn | hjn
  · obtain ⟨z, hz⟩ : ∃ z, lc.getD j 0 = z := ⟨_, rfl⟩
    by_cases hzc : 0 ≤ z ∧ z < (c : Int)
    · repeat' (first | (refine TL.isOp ?_; first | (refine TL.isG ?_; first | refine TL.grun rfl rfl rfl ?_) | (refine TL.isBin ?_; refine TL.cmpG rfl rfl rfl rfl (fun hc => ?_) (fun hc => ?_) <;> (try (first | (exfalso; omega) | exact absurd rfl hc))) | (apply TL.ev; (case hd => rfl); (case h => (first | exact ev_simple rfl | (apply Ev.isBin; first | exact ev_arN rfl rfl rfl (by omega)) | (apply Ev.isLoad; first | exact ev_loadFr hF rfl (by refine ⟨?_, ?_⟩; (focus (repeat (first | exact InV.head | apply InV.tail))); rfl) | exact ev_loadIz rfl (hsc.ext hF.ext) hjn hz) | exact ev_fieldAddr rfl | exact ev_indexN rfl rfl hjn (hsc.ext hF.ext).some)))) | (refine T.is ?_; first | refine T.seq ?_ | refine T.region ?_ | refine T.block ?_ | refine T.cond_t rfl ?_ | refine T.cond_f rfl ?_ | refine T.skip ?_) | (refine G.is ?_; first | refine G.next ?_ | refine G.blockN ?_) | refine TL.nil ?_)
      refine G.again (j + 1) (by repeat (first | exact Sub.nil _ | refine Sub.cons rfl ?_ | refine Sub.cons' rfl (int_congr (by omega)) ?_)) ⟨by omega, fun q hq' => ?_, hF⟩ (by omega)
      rcases Nat.lt_or_ge q j with h | h
      · exact hq q h
      · obtain rfl : q = j := by omega
        rw [hz]; exact hzc
    · have hno : ¬ (InL lr r ∧ InL lc c) := fun h => InL.not (q := j) (by omega) (by rw [hz]; exact hzc) h.2
      repeat' (first | (refine TL.isOp ?_; first | (refine TL.isG ?_; first | refine TL.grun rfl rfl rfl ?_ | refine TL.gskip rfl rfl rfl rfl ?_) | (refine TL.isBin ?_; refine TL.cmpG rfl rfl rfl rfl (fun hc => ?_) (fun hc => ?_) <;> (try (first | (exfalso; omega) | exact absurd rfl hc))) | (apply TL.ev; (case hd => rfl); (case h => (first | exact ev_simple rfl | (apply Ev.isLoad; first | exact ev_loadFr hF rfl (by refine ⟨?_, ?_⟩; (focus (repeat (first | exact InV.head | apply InV.tail))); rfl) | exact ev_loadIz rfl (hsc.ext hF.ext) hjn hz) | exact ev_fieldAddr rfl | exact ev_buildX rfl rfl | exact ev_indexN rfl rfl hjn (hsc.ext hF.ext).some))) | (refine TL.storeAFr hF rfl rfl rfl rfl (by refine ⟨?_, ?_⟩; (focus (repeat (first | apply SetV.head | apply SetV.tail))); rfl) rfl ?_; clear hF; intro ws hF)) | (refine T.is ?_; first | refine T.seq ?_ | refine T.region ?_ | refine T.block ?_ | refine T.cond_t rfl ?_ | refine T.ret ?_ | refine T.skip ?_) | (refine G.is ?_; first | refine G.next ?_ | refine G.blockR ?_ | refine G.thenR ?_) | refine TL.nil ?_)
      all_goals first | exact G.retC2 rfl rfl rfl (held_agg (hF.var (by repeat (first | exact InV.head | apply InV.tail))) rfl) (by unfold RetPick; rw [if_neg hno]; exact ⟨rfl, hF.ext⟩) | (exfalso; omega)
  obtain rfl : j = m' := by omega
  have hIc : InL lc c := InL.of (fun q hq' => hq q (by omega))
  clear hq hj hjn
  by_cases h64 : i ≤ 64 ∧ j ≤ 64
  · repeat' (first | (refine TL.isOp ?_; first | (refine TL.isG ?_; first | refine TL.grun rfl rfl rfl ?_) | (refine TL.isCall ?_; refine TL.call rfl rfl ?_; first | (refine (build_ok _ i j h64.1 h64.2 92 [.pointer (some ⟨b3, 0, none⟩), .pointer (some ⟨b4, 0, none⟩), .pointer (some ⟨b5, 0, none⟩)] inferInstance (fun i' j' => ent ⟨r, c, A1, r * c, k1, l1⟩ c (lr.getD i' 0).toNat (lc.getD j' 0).toNat) K (pick_each hIr hIc hlr hlc (gx.ext hF.ext) hK (hsr.ext hF.ext).size (hsc.ext hF.ext).size (hF.var (by repeat (first | exact InV.head | apply InV.tail))) (hF.var (by repeat (first | exact InV.head | apply InV.tail))) (hF.var (by repeat (first | exact InV.head | apply InV.tail))) him hjm)).mono ?_; rintro _ wz ⟨zz, rfl, hLz, hE, hf⟩; obtain ⟨Az, kz, lz, rfl⟩ := lm_mk hLz; rw [mvc_mk _ _ Az]; have hfz := hf.mono hF.ext.size; replace hF := Fr.addLM hF hE hLz hf; clear hE hf hLz; refine Back.mk ?_)) | (refine TL.isBin ?_; refine TL.cmpG rfl rfl rfl rfl (fun hc => ?_) (fun hc => ?_) <;> (try (first | (exfalso; omega) | exact absurd rfl hc))) | (apply TL.ev; (case hd => rfl); (case h => (first | exact ev_simple rfl | (apply Ev.isLoad; first | exact ev_loadFr hF rfl (by refine ⟨?_, ?_⟩; (focus (repeat (first | exact InV.head | apply InV.tail))); rfl)) | exact ev_len rfl | exact ev_makeFunc rfl))) | (refine TL.storeAFr hF rfl rfl rfl rfl (by refine ⟨?_, ?_⟩; (focus (repeat (first | apply SetV.head | apply SetV.tail))); rfl) rfl ?_; clear hF; intro ws hF)) | (refine T.is ?_; first | refine T.seq ?_ | refine T.region ?_ | refine T.cond_f rfl ?_ | refine T.exit ?_ | refine T.ret ?_ | refine T.skip ?_) | (refine G.is ?_; first | refine G.next ?_ | refine G.blockE ?_ | refine G.thenE ?_) | refine TL.nil ?_)
    refine G.retC2 rfl rfl rfl (held_agg (hF.var (by repeat (first | exact InV.head | apply InV.tail))) rfl) ?_
    unfold RetPick
    rw [if_pos ⟨hIr, hIc⟩, if_pos (by omega), hlr, hlc]
    exact ⟨⟨i, j, Az, i * j, kz, lz⟩, rfl, Fr.lm hF (by repeat (first | exact memH | apply memT)), hF.ext, hfz⟩
  · repeat' (first | (refine TL.isOp ?_; first | (refine TL.isG ?_; first | refine TL.grun rfl rfl rfl ?_ | refine TL.gskip rfl rfl rfl rfl ?_) | (refine TL.isBin ?_; refine TL.cmpG rfl rfl rfl rfl (fun hc => ?_) (fun hc => ?_) <;> (try (first | (exfalso; omega) | exact absurd rfl hc))) | (apply TL.ev; (case hd => rfl); (case h => (first | exact ev_simple rfl | (apply Ev.isLoad; first | exact ev_loadFr hF rfl (by refine ⟨?_, ?_⟩; (focus (repeat (first | exact InV.head | apply InV.tail))); rfl)) | exact ev_len rfl | exact ev_buildX rfl rfl))) | (refine TL.storeAFr hF rfl rfl rfl rfl (by refine ⟨?_, ?_⟩; (focus (repeat (first | apply SetV.head | apply SetV.tail))); rfl) rfl ?_; clear hF; intro ws hF)) | (refine T.is ?_; first | refine T.seq ?_ | refine T.region ?_ | refine T.cond_t rfl ?_ | refine T.cond_f rfl ?_ | refine T.exit ?_ | refine T.ret ?_) | (refine G.is ?_; first | refine G.next ?_ | refine G.blockE ?_ | refine G.thenE ?_ | refine G.thenR ?_) | refine TL.nil ?_)
    all_goals first | exact G.retC2 rfl rfl rfl (held_agg (hF.var (by repeat (first | exact InV.head | apply InV.tail))) rfl) (by unfold RetPick; rw [if_pos ⟨hIr, hIc⟩, if_neg (by omega)]; exact ⟨rfl, hF.ext⟩) | (exfalso; omega)
end Go.Proofs.Ytlpheckjogphmaa

set_option linter.unusedSectionVars false
namespace Go.Eng
open Go Go.Proofs Go.NatM Go.RowKit Go.Proofs.Ytlpheckjogphmaa
section
variable {S : Nat → Prop} {w0 w w' : World} {L : List VB} {D : List DP}
/-- a block known whole as a list of integers -/
theorem Fr.smB {b n : Nat} {t : TypeId} {l : List IV} (hF : Fr w0 w L D S) (hI : InV L b t (l.flatMap ivc)) (hl : l.length = n) : Sm 2 ivc w.heap w.heap.size (some ⟨b, 0, none⟩) n n l :=
  vr_sm (zs := []) (by omega) (fun _ _ => rfl) (by rw [List.append_nil]; exact hF.var hI) hl (Nat.le_refl _) (hF.var hI).lt
end
theorem LsK.mono {H : Array Obj} {l : List IV} {Z : Nat → Int} {i K K' : Nat} (h : LsK i l Z K H) (hk : K ≤ K') : LsK i l Z K' H := fun q hq => ⟨(h q hq).1, Nat.le_trans (h q hq).2 hk⟩
end Go.Eng
namespace Go.Proofs.Ytlpheckjogphmaa
open Go Go.Eng Go.Proofs Go.NatM Go.RowKit
/-- a list of integers in a block of its own, known whole -/
def RetLV (w : World) (n : Nat) (Z : Nat → Int) (K : Nat) (e : Ending) (w' : World) : Prop := ∃ (b : Nat) (l : List IV), e = .returned (.slice (some ⟨b, 0, none⟩) n n) ∧ Vr w'.heap b 42 (l.flatMap ivc) ∧ l.length = n ∧ LsK n l Z K w'.heap ∧ Ext w w' ∧ w.heap.size ≤ b
set_option maxRecDepth 100000 in
set_option maxHeartbeats 8000000 in
theorem eachV (w : World) (A : Option Addr) (n k : Nat) (l : List IV) (hs : Sm 2 ivc w.heap w.heap.size A n k l) (hn : n ≤ 1048576) (g : FuncId) (cap : List Value) (hg : IsFn Try.prog g) (Z : Nat → Int) (K : Nat)
    (hG : ∀ i y (w1 : World), l[i]? = some y → Ext w w1 → Cl Try.prog g ([Value.agg (ivc y).toArray] ++ cap).toArray w1 (RetZ w1 (Z i) K)) :
    Cl Try.prog 76 #[.slice A n k, .func (.func g) #[] cap.toArray] w (RetLV w n Z K) := by
  have hlen := hs.len
  refine enter Try.func76 rfl rfl rfl ?_
  have hF := Fr.refl w
  repeat' (first | (refine TL.isOp ?_; first | (apply TL.ev; (case hd => rfl); (case h => (first | exact ev_simple rfl | exact ev_len rfl))) | (refine TL.makeFr hF ivc ⟨false, ⟨none, 0, 0, []⟩⟩ (d := 10) rfl rfl rfl (Nat.le_refl _) (by omega) rfl rfl rfl ?_; clear hF; intro w10 b10 hF)) | (refine T.is ?_; first | refine T.seq ?_ | refine T.region ?_ | refine T.block ?_) | (refine G.is ?_; first | refine G.next ?_) | refine TL.nil ?_)
  refine T.loop (α := Nat × List IV) (fun x => [(1, .func (.func g) #[] cap.toArray), (5, .slice (some ⟨b10, 0, none⟩) n n), (11, .slice A n k), (12, .int .i64 (n : Int)), (13, .int .i64 (x.1 : Int))])
    (fun x w' => x.1 ≤ n ∧ x.2.length = n ∧ Fr w w' [⟨b10, 42, x.2.flatMap ivc⟩] [dpLK x.1 x.2 Z K])
    (fun x => n - x.1) (0, List.replicate n ⟨false, ⟨none, 0, 0, []⟩⟩) (by repeat (first | exact Sub.nil _ | refine Sub.cons rfl ?_ | refine Sub.cons' rfl (int_congr (by omega)) ?_)) ⟨Nat.zero_le _, List.length_replicate .., Fr.addLK hF (fun q hq => absurd hq (Nat.not_lt_zero _))⟩ ?_
  clear hF
  rintro ⟨i, zl⟩ w2 ⟨hi, hzl, hF⟩
  dsimp only at hi hzl hF ⊢
  rcases Nat.lt_or_ge i n with hin | hin
  · have hy : l[i]? = some (l.getD i default) := by simp [List.getD, show i < l.length by omega]
    obtain ⟨⟨yneg, ⟨yA, yn, yc, yl⟩⟩, ey⟩ : ∃ y, l.getD i default = y := ⟨_, rfl⟩
    rw [ey] at hy
    repeat' (first | (refine TL.isOp ?_; first | (refine TL.isBin ?_; refine TL.cmpG rfl rfl rfl rfl (fun hc => ?_) (fun hc => ?_) <;> (try (first | (exfalso; omega) | exact absurd rfl hc))) | (apply TL.ev; (case hd => rfl); (case h => (first | exact ev_simple rfl | (apply Ev.isBin; first | exact ev_arN rfl rfl rfl (by omega)) | (apply Ev.isLoad; first | exact ev_loadAFr hF rfl (by refine ⟨?_, ?_⟩; (focus (repeat (first | exact InV.head | apply InV.tail))); rfl) | exact ev_loadM rfl (hs.ext hF.ext) hy) | exact ev_indexM rfl rfl hin (hs.ext hF.ext).some | exact ev_indexM rfl rfl hin (.inr rfl)))) | (refine TL.storeAFr hF rfl rfl rfl rfl (by refine ⟨?_, ?_⟩; (focus (repeat (first | apply SetV.head | apply SetV.tail))); rfl) rfl ?_; clear hF; intro ws hF) | (refine TL.callV (vs := [.agg (ivc ⟨yneg, ⟨yA, yn, yc, yl⟩⟩).toArray]) (cap := cap) hg rfl rfl rfl ?_; refine (hG i _ _ hy hF.ext).mono ?_; rintro _ wf ⟨x, rfl, hLx, hE, hKx⟩; replace hF := Fr.addLI (hF.exts hE) hLx; clear hE hLx; refine Back.mk ?_) | (refine TL.storeAtFr hF (f := ivc) x rfl rfl rfl rfl (fun _ => rfl) (by rw [hzl]; exact hin) (ivc_noV zl) (by repeat (first | apply SetV.head | apply SetV.tail)) ?_; clear hF; intro ws hF) | (refine TL.allocFr hF rfl rfl ?_; clear hF; intro wa ba hF)) | (refine T.is ?_; first | refine T.seq ?_ | refine T.region ?_ | refine T.block ?_ | refine T.cond_t rfl ?_ | refine T.skip ?_) | (refine G.is ?_; first | refine G.next ?_ | refine G.blockN ?_) | refine TL.nil ?_)
    have hk := (Fr.lk hF (i := i) (l := zl) (by repeat (first | exact memH | apply memT))).set (by omega) (Fr.li hF (x := x) (by repeat (first | exact memH | apply memT))) hKx
    exact G.again (i + 1, zl.set i x) (by repeat (first | exact Sub.nil _ | refine Sub.cons rfl ?_ | refine Sub.cons' rfl (int_congr (by omega)) ?_)) ⟨by dsimp only; omega, by rw [List.length_set]; exact hzl, Fr.addLK (hF.weak (L := [⟨b10, 42, (zl.set i x).flatMap ivc⟩]) (D := []) (List.Sublist.cons _ (List.Sublist.refl _)) allN) hk⟩ (by dsimp only; omega)
  · obtain rfl : i = n := by omega
    repeat' (first | (refine TL.isOp ?_; first | (refine TL.isBin ?_; refine TL.cmpG rfl rfl rfl rfl (fun hc => ?_) (fun hc => ?_) <;> (try (first | (exfalso; omega) | exact absurd rfl hc))) | (apply TL.ev; (case hd => rfl); (case h => (first | exact ev_simple rfl)))) | (refine T.is ?_; first | refine T.seq ?_ | refine T.region ?_ | refine T.cond_f rfl ?_ | refine T.exit ?_ | refine T.ret ?_) | (refine G.is ?_; first | refine G.next ?_ | refine G.blockE ?_ | refine G.thenE ?_) | refine TL.nil ?_)
    refine G.ret1 rfl rfl ⟨b10, zl, rfl, hF.var .head, hzl, Fr.lk hF (by repeat (first | exact memH | apply memT)), hF.ext, ?_⟩
    rcases hF.lo .head with h | h
    · exact h
    · exact h.elim
/-- a matrix in a block of its own, known whole, and an error's number 0 -/
def RetEV (w : World) (r c : Nat) (Z : Nat → Int) (K : Nat) (e : Ending) (w' : World) : Prop := ∃ (b : Nat) (l : List IV), e = .returned (.tuple #[.agg #[.int .i64 (r : Int), .int .i64 (c : Int), .slice (some ⟨b, 0, none⟩) (r * c) (r * c)], .int .i64 0]) ∧ Vr w'.heap b 42 (l.flatMap ivc) ∧ l.length = r * c ∧ LsK (r * c) l Z K w'.heap ∧ Ext w w' ∧ w.heap.size ≤ b
set_option maxRecDepth 100000 in
set_option maxHeartbeats 8000000 in
theorem mleastV (w : World) (x : MV) (r c K : Nat) (gx : GM w.heap x r c K) (hK : K ≤ 35184372088832) : Cl Try.prog 43 #[.agg (mvc x).toArray] w (RetEV w r c (fun q => ival (x.l.getD q default)) K) := by
  have hs0 := gx.sh
  obtain ⟨xr, xc, A1, n1, k1, l1⟩ := x
  obtain ⟨hr1, hc1, hr, hc, hn1⟩ := hs0
  dsimp only at hr1 hc1 hn1
  subst hr1 hc1 hn1
  have hm := mul64 hr hc
  refine enter Try.func43 rfl rfl rfl ?_
  have hF := Fr.refl w
  repeat' (first | (refine TL.isOp ?_; first | (refine TL.isCall ?_; refine TL.call rfl rfl ?_; first | (refine (chk_ok _ _ r c gx.sh).mono ?_; rintro _ wy ⟨rfl, hE⟩; replace hF := hF.exts hE; clear hE; refine Back.mk ?_) | (refine (eachV _ A1 (r * c) k1 l1 (gx.s.ext hF.ext).size (by omega) 50 [] inferInstance _ K (least_each _ l1 K (fun y hy => ⟨(gx.g y hy).1.ext hF.ext, (gx.g y hy).2⟩) hK)).mono ?_; rintro _ wl ⟨bz, lz, rfl, hVz, hlz, hgz, hE, hbz⟩; have hbz2 := Nat.le_trans hF.exs.size hbz; replace hF := (Fr.addLK (hF.newGe hbz hVz hE) hgz).swap; clear hE hgz hVz; refine Back.mk ?_)) | (refine TL.isBin ?_; refine TL.cmpG rfl rfl rfl rfl (fun hc => ?_) (fun hc => ?_) <;> (try (first | (exfalso; omega) | exact absurd rfl hc))) | (apply TL.ev; (case hd => rfl); (case h => (first | exact ev_simple rfl | (apply Ev.isLoad; first | exact ev_loadAFr hF rfl (by refine ⟨?_, ?_⟩; (focus (repeat (first | exact InV.head | apply InV.tail))); rfl))))) | (refine TL.storeAFr hF rfl rfl rfl rfl (by refine ⟨?_, ?_⟩; (focus (repeat (first | apply SetV.head | apply SetV.tail))); rfl) rfl ?_; clear hF; intro ws hF) | (refine TL.boxAFr hF (d := 1) (cs := [.int .i64 (r : Int), .int .i64 (c : Int), .slice A1 (r * c) k1]) rfl rfl ?_; clear hF; intro w1 b1 hF) | (refine TL.allocFr hF (d := 2) rfl rfl ?_; clear hF; intro w2 b2 hF)) | (refine TF.is ?_; first | refine TF.nil ?_ | refine TF.e rfl ?_ | (refine TF.pick rfl ?_; first | (apply TFo.ev; (case hd => rfl); (case h => (intro wh hF; first | exact ev_simple rfl | (apply Ev.isLoad; first | exact ev_loadFr hF rfl (by refine ⟨?_, ?_⟩; (focus (repeat (first | exact InV.head | apply InV.tail))); rfl)) | exact ev_fieldAddr rfl | exact ev_buildX rfl rfl))))) | (refine T.is ?_; first | refine T.seq ?_ | refine T.region ?_ | refine T.cond_f rfl ?_ | refine T.ret ?_ | refine T.skip ?_ | (refine T.regionFt hF 4 10 (.s 0 (.s 1 (.s 2 (.s 3 (.s 4 (.s 5 (.e 6 (.s 7 (.e 8 (.s 9 .nil)))))))))) mixed (by kernel_rfl) ?_; clear hF; intro wr hF)) | (refine G.is ?_; first | refine G.next ?_ | refine G.only ?_ | refine G.tree rfl (by first | exact hF | exact hF.weak (List.sublist_append_right _ _) (by repeat (first | exact allR | apply allT)) | exact hF.weak (by repeat (first | exact List.Sublist.refl _ | apply List.Sublist.cons)) (by repeat (first | exact allR | apply allT)) | exact hF.weak (by repeat (first | exact List.Sublist.refl _ | apply List.Sublist.cons)) (by repeat (first | exact allN | refine allH (by repeat (first | exact memH | apply memT)) ?_))) ?_) | refine TL.nil ?_)
  exact G.retC2 rfl rfl rfl (held_agg (hF.var (b := b2) (by repeat (first | exact InV.head | apply InV.tail))) rfl) ⟨bz, lz, rfl, hF.var (b := bz) (by repeat (first | exact InV.head | apply InV.tail)), hlz, Fr.lk hF (i := r * c) (l := lz) (by repeat (first | exact memH | apply memT)), hF.ext, hbz2⟩
/-- the unit matrix with v added at a place -/
def unF (i j : Nat) (v : Int) (p q : Nat) : Int := (if p = q then 1 else 0) + (if p = i ∧ q = j then v else 0)
set_option maxRecDepth 100000 in
set_option maxHeartbeats 8000000 in
theorem lunit (w : World) (n i j : Nat) (x : IV) (hn : n ≤ 64) (hi : i < n) (hj : j < n) (gx : GI w.heap x) (hx : x.m.n ≤ 1099511627776) :
    Cl Try.prog 77 #[.int .i64 (n : Int), .int .i64 (i : Int), .int .i64 (j : Int), ivA x] w (RetM w n n (unF i j (ival x)) (x.m.n + 2)) := by
  have hu := fun w => munitV w n hn
  have hp := place_lt hi hj
  have hnn := mul64 hn hn
  have hin : i * n ≤ 4096 := by omega
  obtain ⟨v, hv⟩ : ∃ v, ival x = v := ⟨_, rfl⟩
  have hadd := fun w1 (hE : Ext w w1) y (gy : GI w1.heap y) (hy : y.m.n ≤ 1) => zadd_ok w1 y x gy (gx.ext hE) (by omega) (by omega)
  rw [hv] at hadd ⊢
  obtain ⟨xs, ⟨xA, xn, xc, xl⟩⟩ := x
  dsimp only at hx hadd
  refine enter Try.func77 rfl rfl rfl ?_
  have hF := Fr.refl w
  repeat' (first | (refine TL.isOp ?_; first | (refine TL.isCall ?_; refine TL.call rfl rfl ?_; first | (refine (hu _).mono ?_; rintro _ wz ⟨bz, lz, rfl, hVz, hlz, hgz, hE, hbz⟩; have hbz2 := Nat.le_trans hF.exs.size hbz; replace hF := Fr.addLK (hF.newGe hbz hVz hE) hgz; clear hE hgz hVz; refine Back.mk ?_)) | (apply TL.ev; (case hd => rfl); (case h => (first | exact ev_simple rfl))) | (refine TL.storeAFr hF rfl rfl rfl rfl (by refine ⟨?_, ?_⟩; (focus (repeat (first | apply SetV.head | apply SetV.tail))); rfl) rfl ?_; clear hF; intro ws hF) | (refine TL.boxAFr hF (d := 7) (cs := [.bool xs, .slice xA xn xc]) rfl rfl ?_; clear hF; intro w7 b7 hF) | (refine TL.allocFr hF (d := 8) rfl rfl ?_; clear hF; intro w8 b8 hF) | (refine TL.allocFr hF (d := 9) rfl rfl ?_; clear hF; intro w9 b9 hF)) | (refine T.is ?_; first | refine T.seqM 2 rfl ?_ | refine T.region ?_) | (refine G.is ?_; first | refine G.next ?_) | refine TL.nil ?_)
  have hlk := Fr.lk hF (i := n * n) (l := lz) (by repeat (first | exact memH | apply memT)) (i * n + j) hp
  have hy : lz[i * n + j]? = some (lz.getD (i * n + j) default) := by simp [List.getD, show i * n + j < lz.length by omega]
  obtain ⟨y, hyy⟩ : ∃ y, lz.getD (i * n + j) default = y := ⟨_, rfl⟩
  rw [hyy] at hlk hy
  have hyn := hlk.2
  obtain ⟨z0, hz0⟩ : ∃ z0, ival y = z0 := ⟨_, rfl⟩
  have hz1 := hlk.1.val
  replace hF := Fr.addLI hF hlk.1
  clear hlk hyy
  obtain ⟨ys, ⟨yA, yn, yc, yl⟩⟩ := y
  dsimp only at hyn
  repeat' (first | (refine TL.isOp ?_; first | (refine TL.isCall ?_; refine TL.call rfl rfl ?_; first | (refine (hadd _ hF.ext ⟨ys, ⟨yA, yn, yc, yl⟩⟩ (Fr.li hF (x := ⟨ys, ⟨yA, yn, yc, yl⟩⟩) (by repeat (first | exact memH | apply memT))).g hyn).mono ?_; rintro _ wc ⟨u, rfl, hLu, hE, hun⟩; replace hF := Fr.addLI (hF.exts hE) hLu; clear hE hLu; refine Back.mk ?_)) | (refine TL.isBin ?_; refine TL.cmpG rfl rfl rfl rfl (fun hc => ?_) (fun hc => ?_) <;> (try (first | (exfalso; omega) | exact absurd rfl hc))) | (apply TL.ev; (case hd => rfl); (case h => (first | exact ev_simple rfl | (apply Ev.isBin; first | exact ev_arN rfl rfl rfl (by omega)) | (apply Ev.isLoad; first | exact ev_loadFr hF rfl (by refine ⟨?_, ?_⟩; (focus (repeat (first | exact InV.head | apply InV.tail))); rfl) | exact ev_loadAFr hF rfl (by refine ⟨?_, ?_⟩; (focus (repeat (first | exact InV.head | apply InV.tail))); rfl)) | exact ev_len rfl | exact ev_fieldAddr rfl))) | (refine TL.storeAFr hF rfl rfl rfl rfl (by refine ⟨?_, ?_⟩; (focus (repeat (first | apply SetV.head | apply SetV.tail))); rfl) rfl ?_; clear hF; intro ws hF) | (refine TL.storeAtFr hF (f := ivc) u rfl rfl rfl rfl (fun _ => rfl) (by omega) (ivc_noV lz) (by repeat (first | apply SetV.head | apply SetV.tail)) ?_; clear hF; intro ws hF)) | (refine TF.is ?_; first | refine TF.nil ?_ | refine TF.e rfl ?_ | (refine TF.pick rfl ?_; first | (apply TFo.ev; (case hd => rfl); (case h => (intro wh hF; first | exact ev_simple rfl | (apply Ev.isBin; first | exact ev_arN rfl rfl rfl (by omega)) | (apply Ev.isLoad; first | exact ev_loadFr hF rfl (by refine ⟨?_, ?_⟩; (focus (repeat (first | exact InV.head | apply InV.tail))); rfl) | exact ev_loadAFr hF rfl (by refine ⟨?_, ?_⟩; (focus (repeat (first | exact InV.head | apply InV.tail))); rfl) | exact ev_loadMc [.bool ys, .slice yA yn yc] rfl (Fr.smB hF (b := bz) (l := lz) (by repeat (first | exact InV.head | apply InV.tail)) hlz) hy rfl) | exact ev_fieldAddr rfl | exact ev_indexM rfl rfl hp (.inr rfl)))))) | (refine T.is ?_; first | refine T.seq ?_ | refine T.region ?_ | refine T.cond_t rfl ?_ | refine T.ret ?_ | (refine T.regionFr hF 3 19 (.s 0 (.s 1 (.s 2 (.s 3 (.s 4 (.s 5 (.s 6 (.s 7 (.s 8 (.s 9 (.s 10 (.s 11 (.s 12 (.s 13 (.s 14 (.s 15 (.s 16 (.e 17 (.s 18 (.e 19 .nil)))))))))))))))))))) mixed (by kernel_rfl) ?_; clear hF; intro wr hF)) | (refine G.is ?_; first | refine G.next ?_ | refine G.only ?_ | refine G.treeEnd rfl ?_ | refine G.tree rfl (by first | exact hF | exact hF.weak (List.sublist_append_right _ _) (by repeat (first | exact allR | apply allT)) | exact hF.weak (by repeat (first | exact List.Sublist.refl _ | apply List.Sublist.cons)) (by repeat (first | exact allR | apply allT)) | exact hF.weak (by repeat (first | exact List.Sublist.refl _ | apply List.Sublist.cons)) (by repeat (first | exact allN | refine allH (by repeat (first | exact memH | apply memT)) ?_))) ?_) | refine TL.nil ?_)
  have hk := lk_put (LsK.mono (Fr.lk hF (i := n * n) (l := lz) (by repeat (first | exact memH | apply memT))) (show 1 ≤ xn + 2 by omega)) hlz hp (Fr.li hF (x := u) (by repeat (first | exact memH | apply memT))) (by dsimp only at hun; omega)
  refine G.retC1 rfl rfl (held_agg (hF.var (b := b8) (by repeat (first | exact InV.head | apply InV.tail))) rfl) ⟨⟨(n : Int), (n : Int), some ⟨bz, 0, none⟩, n * n, n * n, lz.set (i * n + j) u⟩, rfl, ⟨⟨rfl, rfl, hn, hn, rfl⟩, Fr.smB hF (b := bz) (l := lz.set (i * n + j) u) (by repeat (first | exact InV.head | apply InV.tail)) (by rw [List.length_set]; exact hlz), fun p q hp' hq' => ?_⟩, hF.ext, .inr ⟨bz, rfl, hbz2⟩⟩
  have h := hk (p * n + q) (place_lt hp' hq')
  dsimp only at h ⊢
  have e1 : (p * n + q) / n = p := by rw [Nat.mul_comm, Nat.mul_add_div (by omega), Nat.div_eq_of_lt hq', Nat.add_zero]
  have e2 : (p * n + q) % n = q := by rw [Nat.mul_comm, Nat.mul_add_mod, Nat.mod_eq_of_lt hq']
  have e3 : (i * n + j) / n = i := by rw [Nat.mul_comm, Nat.mul_add_div (by omega), Nat.div_eq_of_lt hj, Nat.add_zero]
  have e4 : (i * n + j) % n = j := by rw [Nat.mul_comm, Nat.mul_add_mod, Nat.mod_eq_of_lt hj]
  by_cases e : p * n + q = i * n + j
  · have h1 : p = i := by rw [← e1, e, e3]
    have h2 : q = j := by rw [← e2, e, e4]
    rw [if_pos e, hz1, e3, e4] at h
    unfold unF
    rw [show (if p = i ∧ q = j then v else (0 : Int)) = v from if_pos ⟨h1, h2⟩, show (if p = q then (1 : Int) else 0) = if i = j then 1 else 0 by rw [h1, h2]]
    exact h
  · rw [if_neg e, e1, e2] at h
    unfold unF
    rw [show (if p = i ∧ q = j then v else (0 : Int)) = 0 from if_neg (fun e' => e (by rw [e'.1, e'.2])), Int.add_zero]
    exact h
end Go.Proofs.Ytlpheckjogphmaa

namespace Go.Proofs.Ytlpheckjogphmaa
open Go Go.Eng Go.Proofs Go.NatM Go.RowKit

theorem cellTypes_mat : Try.prog.cellTypes Try.prog.depth 24 = some [3, 3, 22] := by kernel_rfl
theorem cell_int {P : Program} {W : World} {base : Nat} {t : TypeId} {z : Int} (ht : P.underlying t = some (.int .i64)) (h : Cell.okWide P W .any base t (.int .i64 z)) : -9223372036854775808 ≤ z ∧ z < 9223372036854775808 := by
  simp [Cell.okWide, Cell.ok, ht, IntKind.has, IntKind.min, IntKind.max, IntKind.signed, IntKind.bits] at h
  omega
set_option maxRecDepth 10000 in
theorem inR_of {W : World} {base : Nat} {y : MV} (hv : Value.okWide Try.prog W .any base 24 (.agg (mvc y).toArray)) : InR y := by
  simp only [Value.okWide, Try.underlying24] at hv
  obtain ⟨cs, e, _, ts, hts, _, hall⟩ := hv
  cases e
  rw [cellTypes_mat] at hts
  cases hts
  obtain ⟨u, hu, h0⟩ := hall 0 _ rfl
  cases hu
  obtain ⟨u, hu, h1⟩ := hall 1 _ rfl
  cases hu
  exact ⟨cell_int Try.underlying3 h0, cell_int Try.underlying3 h1⟩
set_option maxRecDepth 10000 in
theorem open_matI {H : Type} {enc : TypeId × Value → H} {W : World} {base base' : Nat} {spare : Nat → Bool} {held : Bool} {v : Value} {d : DataW H} {ps : List MemPlace}
    (hv : Value.okWide Try.prog W .any base' 24 v) (h : DataW.Trod enc Try.prog W base spare held 24 v d ps) :
    ∃ y : MV, v = .agg (mvc y).toArray ∧ (RM0 W.heap y ∧ InR y) ∧ wts ivw y.l ≤ Rows.uptoBulk d := by
  obtain ⟨y, e, r, m⟩ := open_mat hv h
  subst e
  exact ⟨y, rfl, ⟨r, inR_of hv⟩, m⟩
theorem small_matI {H : Array Obj} {y : MV} {b : Nat} (h : b ≤ 1048576) (r : RM0 H y ∧ InR y) (hn : wts ivw y.l ≤ b) : RM H y 1048576 ∧ InR y := ⟨small_mat h r.1 hn, r.2⟩
end Go.Proofs.Ytlpheckjogphmaa

namespace Go.Proofs.Ytlpheckjogphmaa
open Go Go.Eng Go.Proofs Go.NatM Go.ChangeShapes Go.WideShapes Go.ChangeAt Go.RowKit Go.Deep
/-- a change handed in -/
structure CV where
  k : Int
  i : Int
  j : Int
  v : IV
deriving Inhabited
def cvc (x : CV) : List Value := [.int .i64 x.k, .int .i64 x.i, .int .i64 x.j, .bool x.v.neg, .slice x.v.m.A x.v.m.n x.v.m.c]
def cvw (x : CV) : Nat := x.v.m.n
structure CG (H : Array Obj) (x : CV) : Prop where
  k : -9223372036854775808 ≤ x.k ∧ x.k < 9223372036854775808
  i : -9223372036854775808 ≤ x.i ∧ x.i < 9223372036854775808
  j : -9223372036854775808 ≤ x.j ∧ x.j < 9223372036854775808
  v : GI H x.v
theorem len5 {α : Type} {l : List α} (h : l.length = 5) : ∃ a b c d e, l = [a, b, c, d, e] := by
  match l, h with
  | [a, b, c, d, e], _ => exact ⟨a, b, c, d, e, rfl⟩
set_option maxRecDepth 10000 in
theorem open_act {H : Type} {enc : TypeId × Value → H} {W : World} {base : Nat} {spare : Nat → Bool} {held : Bool} (m : Nat) (cs : List Value) (x : DataW H × List MemPlace)
    (h : DataW.trod enc Try.prog W base spare held m 44 cs = some x) : ∃ y : CV, cs = cvc y ∧ CG W.heap y ∧ cvw y ≤ Rows.uptoBulk x.1 := by
  obtain ⟨xs, q, _, rfl, hl, hxl, hall⟩ := DataW.trod_struct Try.underlying44 h
  have hl' : cs.length = 5 := hl.trans (by kernel_rfl)
  have hxl' : xs.length = 4 := hxl.trans rfl
  obtain ⟨v0, v1, v2, v3, v4, rfl⟩ := len5 hl'
  obtain ⟨x0, x1, x2, x3, rfl⟩ := len4 hxl'
  have ci : Try.prog.cellsOf 3 = 1 := by kernel_rfl
  have cl : Try.prog.cellsOf 42 = 2 := by kernel_rfl
  have h0 : DataW.trod enc Try.prog W base spare held q 3 (([v0, v1, v2, v3, v4].drop 0).take (Try.prog.cellsOf 3)) = some x0 := hall 0 _ rfl
  rw [ci] at h0
  have h1 : DataW.trod enc Try.prog W base spare held q 3 (([v0, v1, v2, v3, v4].drop 1).take (Try.prog.cellsOf 3)) = some x1 := hall 1 _ rfl
  rw [ci] at h1
  have h2 : DataW.trod enc Try.prog W base spare held q 3 (([v0, v1, v2, v3, v4].drop 2).take (Try.prog.cellsOf 3)) = some x2 := hall 2 _ rfl
  rw [ci] at h2
  have h3 : DataW.trod enc Try.prog W base spare held q 42 (([v0, v1, v2, v3, v4].drop 3).take (Try.prog.cellsOf 42)) = some x3 := hall 3 _ rfl
  rw [cl] at h3
  obtain ⟨z0, e0, b0⟩ := open_i64c Try.underlying3 h0
  obtain rfl : v0 = .int .i64 z0 := by simpa using e0
  obtain ⟨z1, e1, b1⟩ := open_i64c Try.underlying3 h1
  obtain rfl : v1 = .int .i64 z1 := by simpa using e1
  obtain ⟨z2, e2, b2⟩ := open_i64c Try.underlying3 h2
  obtain rfl : v2 = .int .i64 z2 := by simpa using e2
  obtain ⟨y, e3, g3, m3⟩ := open_int q _ x3 h3
  obtain ⟨rfl, rfl⟩ : v3 = .bool y.neg ∧ v4 = .slice y.m.A y.m.n y.m.c := by simpa [ivc] using e3
  refine ⟨⟨z0, z1, z2, y⟩, rfl, ⟨b0, b1, b2, g3⟩, ?_⟩
  simp only [cvw, List.map_cons, List.map_nil, Rows.uptoBulk, Rows.uptoBulkAll]
  unfold ivw at m3
  omega
set_option maxRecDepth 100000 in
/-- changes handed in -/
theorem open_acts {H : Type} {enc : TypeId × Value → H} {W : World} {base base' : Nat} {spare : Nat → Bool} {held : Bool} {v : Value} {d : DataW H} {ps : List MemPlace}
    (hv : Value.okWide Try.prog W .any base' 25 v) (h : DataW.Trod enc Try.prog W base spare held 25 v d ps) :
    ∃ A n c L, v = .slice A n c ∧ Sm 5 cvc W.heap W.heap.size A n c L ∧ (∀ s ∈ L, CG W.heap s) ∧ (wts cvw L + 1 ≤ Rows.uptoBulk d ∧ n + 1 ≤ Rows.uptoBulk d) := by
  obtain ⟨A, n, c, rfl⟩ := okWide_slice Try.underlying25 hv
  obtain ⟨fuel, hf⟩ := h
  obtain ⟨A', n', c', L, e, r⟩ := open_elems (x := (d, ps)) cvc (fun s => CG W.heap s) cvw (show 0 < 5 by omega) (fun _ => rfl) Try.underlying25 (by kernel_rfl) (fun m cs x h => open_act m cs x h) hf
  have e' : [Value.slice A n c] = [.slice A' n' c'] := e
  simp at e'
  obtain ⟨rfl, rfl, rfl⟩ := e'
  exact ⟨A, n, c, L, rfl, r⟩
theorem small_acts {n : Nat} {L : List CV} {b : Nat} (h : b ≤ 1048576) (hn : wts cvw L + 1 ≤ b ∧ n + 1 ≤ b) : wts cvw L ≤ 1048576 ∧ n ≤ 1048576 := by omega
end Go.Proofs.Ytlpheckjogphmaa

set_option linter.unusedSectionVars false
namespace Go.Eng
open Go Go.Proofs Go.NatM Go.RowKit Go.Proofs.Ytlpheckjogphmaa
/-- does a change name a place? -/
def DOk (r c : Nat) (a : CV) : Prop := (0 ≤ a.i ∧ a.i < (r : Int)) ∧ (a.k = 8 ∨ (a.k = 5 ∧ 0 ≤ a.j ∧ a.j < (c : Int)) ∨ (a.k ≠ 5 ∧ a.k ≠ 8 ∧ 0 ≤ a.j ∧ a.j < (r : Int)))
/-- a function changed -/
def chZ (Z : ZF) (a : CV) : ZF := if a.k = 5 then updZ Z (a.i, a.j) (ival a.v) else if a.k = 8 then clrF Z a.i else if a.k = 6 then rowF Z a.i a.j (ival a.v) else swpF Z a.i a.j
/-- a function on rows and columns, as a matrix has it -/
def natF (Z : ZF) (p q : Nat) : Int := Z ((p : Int), (q : Int))
theorem psum_unF {n i j p : Nat} {v : Int} (f : Nat → Int) (hp : p < n) (hj : j < n) : psum (fun q => unF i j v p q * f q) n = f p + (if p = i then v * f j else 0) := by
  have e : ∀ q, unF i j v p q * f q = (if p = q then 1 else 0) * f q + (if p = i then v else 0) * ((if j = q then 1 else 0) * f q) := fun q => by
    unfold unF
    rw [Int.add_mul]
    congr 1
    by_cases h1 : p = i
    · by_cases h2 : j = q
      · subst h2; simp [h1]
      · rw [if_neg (fun h => h2 h.2.symm), if_pos h1, if_neg h2]; simp
    · rw [if_neg (fun h => h1 h.1), if_neg h1]; simp
  rw [psum_congr (g := fun q => (if p = q then 1 else 0) * f q + (if p = i then v else 0) * ((if j = q then 1 else 0) * f q)) (fun q _ => e q), psum_add, psum_mul, psum_unit, psum_unit, if_pos hp, if_pos hj]
  congr 1
  by_cases h1 : p = i
  · rw [if_pos h1, if_pos h1]
  · rw [if_neg h1, if_neg h1, Int.zero_mul]
theorem LM.moreF {H : Array Obj} {x : MV} {r c K K' : Nat} {F G : Nat → Nat → Int} (h : LM H x r c F K) (hk : K ≤ K') (e : ∀ i j, i < r → j < c → F i j = G i j) : LM H x r c G K' := ⟨h.sh, h.s, fun i j hi hj => by rw [← e i j hi hj]; exact ⟨(h.g i j hi hj).1, Nat.le_trans (h.g i j hi hj).2 hk⟩⟩
theorem putO_none : ∀ (l : List Value), putO l 0 [] = some l
  | [] => rfl
  | _ :: _ => rfl
theorem putO_setz {α : Type} {g : α → List Value} {f : α → Value} (hg : ∀ x, g x = [f x]) (u : α) (zs : List Value) : ∀ (l : List α) (i : Nat), i < l.length → putO (l.flatMap g ++ zs) i [f u] = some ((l.set i u).flatMap g ++ zs)
  | [], i, h => by simp at h
  | y :: l, 0, h => by
    rw [List.flatMap_cons, hg y, List.set_cons_zero, List.flatMap_cons, hg u]
    simp [putO, putO_none]
  | y :: l, i + 1, h => by
    have ih := putO_setz hg u zs l i (by simpa using h)
    rw [List.flatMap_cons, hg y, List.set_cons_succ, List.flatMap_cons, hg y]
    simp only [List.cons_append, List.nil_append, List.append_assoc] at ih ⊢
    simp [putO, ih]
end Go.Eng
namespace Go.Proofs.Ytlpheckjogphmaa
open Go Go.Eng Go.Proofs Go.NatM Go.RowKit
def RetDY (w : World) (r c : Nat) (Z : ZF) (e : Ending) (w' : World) : Prop := ∃ z : MV, e = .returned (.tuple #[.agg (mvc z).toArray, .bool true]) ∧ LM w'.heap z r c (natF Z) 2097152 ∧ Ext w w' ∧ MF w z
set_option maxRecDepth 100000 in
set_option maxHeartbeats 8000000 in
theorem dense_no (w : World) (x : MV) (r c : Nat) (hs : Sound x r c) (a : CV) (ha : ¬ DOk r c a) :
    Cl Try.prog 44 #[.agg (mvc x).toArray, .agg (cvc a).toArray] w (fun e w' => e = .returned (.tuple #[.agg (mvc x).toArray, .bool false]) ∧ Ext w w') := by
  unfold DOk at ha
  obtain ⟨xr, xc, A1, n1, k1, l1⟩ := x
  obtain ⟨hr1, hc1, hr, hc, hn1⟩ := hs
  obtain ⟨k, i, j, ⟨vs, ⟨vA, vn, vc, vl⟩⟩⟩ := a
  dsimp only at hr1 hc1 hn1 ha
  subst hr1 hc1 hn1
  refine enter Try.func44 rfl rfl rfl ?_
  have hF := Fr.refl w
  repeat' (first | (refine TL.isOp ?_; first | (refine TL.isG ?_; first | refine TL.grun rfl rfl rfl ?_ | refine TL.gskip rfl rfl rfl rfl ?_) | (refine TL.isBin ?_; refine TL.cmpG rfl rfl rfl rfl (fun hc => ?_) (fun hc => ?_) <;> (try (first | (exfalso; omega) | exact absurd rfl hc))) | (apply TL.ev; (case hd => rfl); (case h => (first | exact ev_simple rfl | (apply Ev.isLoad; first | exact ev_loadFr hF rfl (by refine ⟨?_, ?_⟩; (focus (repeat (first | exact InV.head | apply InV.tail))); rfl) | exact ev_loadAFr hF rfl (by refine ⟨?_, ?_⟩; (focus (repeat (first | exact InV.head | apply InV.tail))); rfl)) | exact ev_fieldAddr rfl))) | (refine TL.storeAFr hF rfl rfl rfl rfl (by refine ⟨?_, ?_⟩; (focus (repeat (first | apply SetV.head | apply SetV.tail))); rfl) rfl ?_; clear hF; intro ws hF) | (refine TL.boxAFr hF (d := 2) (cs := [.int .i64 (r : Int), .int .i64 (c : Int), .slice A1 (r * c) k1]) rfl rfl ?_; clear hF; intro w2 b2 hF) | (refine TL.boxAFr hF (d := 3) (cs := [.int .i64 k, .int .i64 i, .int .i64 j, .bool vs, .slice vA vn vc]) rfl rfl ?_; clear hF; intro w3 b3 hF) | (refine TL.allocFr hF (d := 4) rfl rfl ?_; clear hF; intro w4 b4 hF)) | (refine T.is ?_; first | refine T.seq ?_ | refine T.region ?_ | refine T.block ?_ | refine T.cond_t rfl ?_ | refine T.cond_f rfl ?_ | refine T.ret ?_ | refine T.skip ?_) | (refine G.is ?_; first | refine G.next ?_ | refine G.blockN ?_ | refine G.blockR ?_ | refine G.thenR ?_) | refine TL.nil ?_)
  all_goals exact G.retC2 rfl rfl rfl (held_agg (hF.var (b := b4) (by repeat (first | exact InV.head | apply InV.tail))) rfl) ⟨rfl, hF.ext⟩
set_option maxRecDepth 100000 in
set_option maxHeartbeats 8000000 in
theorem dense_set (w : World) (x : MV) (r c : Nat) (Z : ZF) (hx : LM w.heap x r c (natF Z) 16384) (a : CV) (ha : CG w.heap a) (hv : a.v.m.n ≤ 1048576) (hk : a.k = 5) (hi : 0 ≤ a.i ∧ a.i < (r : Int)) (hj : 0 ≤ a.j ∧ a.j < (c : Int)) :
    Cl Try.prog 44 #[.agg (mvc x).toArray, .agg (cvc a).toArray] w (RetDY w r c (chZ Z a)) := by
  have hle := fun w1 (hE : Ext w w1) => mleastV w1 x r c 16384 (hx.ext hE).gm (by omega)
  have hle2 := fun w1 (hE : Ext w w1) => zleast_ok w1 a.v (ha.v.ext hE) (by omega)
  have hent := fun p q (hp : p < r) (hq : q < c) => (hx.g p q hp hq).1.val
  have hs := hx.sh
  unfold chZ
  rw [if_pos hk]
  clear hx ha
  obtain ⟨xr, xc, A1, n1, k1, l1⟩ := x
  obtain ⟨hr1, hc1, hr, hcc, hn1⟩ := hs
  obtain ⟨k, i, j, v⟩ := a
  dsimp only at hr1 hc1 hn1 hle hle2 hk hi hj hv hent ⊢
  subst hr1 hc1 hn1 hk
  obtain ⟨vv, hvv⟩ : ∃ z, ival v = z := ⟨_, rfl⟩
  rw [hvv] at hle2 ⊢
  obtain ⟨vs, ⟨vA, vn, vc, vl⟩⟩ := v
  dsimp only at hle2 hv
  obtain ⟨i, rfl⟩ : ∃ n : Nat, i = (n : Int) := ⟨i.toNat, by omega⟩
  obtain ⟨j, rfl⟩ : ∃ n : Nat, j = (n : Int) := ⟨j.toNat, by omega⟩
  have hi' : i < r := by omega
  have hj' : j < c := by omega
  have hp := place_lt hi' hj'
  have hm := mul64 hr hcc
  have hic : i * c ≤ 4096 := by omega
  refine enter Try.func44 rfl rfl rfl ?_
  have hF := Fr.refl w
  repeat' (first | (refine TL.isOp ?_; first | (refine TL.isG ?_; first | refine TL.grun rfl rfl rfl ?_) | (refine TL.isCall ?_; refine TL.call rfl rfl ?_; first | (refine (hle _ hF.ext).mono ?_; rintro _ wz ⟨bz, lz, rfl, hVz, hlz, hgz, hE, hbz⟩; have hbz2 := Nat.le_trans hF.exs.size hbz; replace hF := Fr.addLK (hF.newGe hbz hVz hE) hgz; clear hE hgz hVz; refine Back.mk ?_) | (refine (hle2 _ hF.ext).mono ?_; rintro _ wc ⟨u, rfl, hLu, hE, hun⟩; replace hF := Fr.addLI (hF.exts hE) hLu; clear hE hLu; refine Back.mk ?_)) | (refine TL.isBin ?_; refine TL.cmpG rfl rfl rfl rfl (fun hc => ?_) (fun hc => ?_) <;> (try (first | (exfalso; omega) | exact absurd rfl hc))) | (apply TL.ev; (case hd => rfl); (case h => (first | exact ev_simple rfl | (apply Ev.isBin; first | exact ev_arN rfl rfl rfl (by omega)) | (apply Ev.isLoad; first | exact ev_loadFr hF rfl (by refine ⟨?_, ?_⟩; (focus (repeat (first | exact InV.head | apply InV.tail))); rfl) | exact ev_loadAFr hF rfl (by refine ⟨?_, ?_⟩; (focus (repeat (first | exact InV.head | apply InV.tail))); rfl)) | exact ev_len rfl | exact ev_fieldAddr rfl))) | (refine TL.storeAFr hF rfl rfl rfl rfl (by refine ⟨?_, ?_⟩; (focus (repeat (first | apply SetV.head | apply SetV.tail))); rfl) rfl ?_; clear hF; intro ws hF) | (refine TL.boxAFr hF (d := 2) (cs := [.int .i64 (r : Int), .int .i64 (c : Int), .slice A1 (r * c) k1]) rfl rfl ?_; clear hF; intro w2 b2 hF) | (refine TL.boxAFr hF (d := 3) (cs := [.int .i64 5, .int .i64 (i : Int), .int .i64 (j : Int), .bool vs, .slice vA vn vc]) rfl rfl ?_; clear hF; intro w3 b3 hF) | (refine TL.allocFr hF (d := 4) rfl rfl ?_; clear hF; intro w4 b4 hF) | (refine TL.allocFr hF (d := 6) rfl rfl ?_; clear hF; intro w6 b6 hF) | (refine TL.storeAtFr hF (f := ivc) u rfl rfl rfl rfl (fun _ => rfl) (by omega) (ivc_noV lz) (by repeat (first | apply SetV.head | apply SetV.tail)) ?_; clear hF; intro ws hF)) | (refine TF.is ?_; first | refine TF.nil ?_ | refine TF.e rfl ?_ | (refine TF.pick rfl ?_; first | (apply TFo.ev; (case hd => rfl); (case h => (intro wh hF; first | (apply Ev.isBin; first | exact ev_arN rfl rfl rfl (by omega)) | (apply Ev.isLoad; first | exact ev_loadFr hF rfl (by refine ⟨?_, ?_⟩; (focus (repeat (first | exact InV.head | apply InV.tail))); rfl) | exact ev_loadAFr hF rfl (by refine ⟨?_, ?_⟩; (focus (repeat (first | exact InV.head | apply InV.tail))); rfl)) | exact ev_fieldAddr rfl | exact ev_indexM rfl rfl hp (.inr rfl)))))) | (refine T.is ?_; first | refine T.seq ?_ | refine T.region ?_ | refine T.block ?_ | refine T.cond_t rfl ?_ | refine T.cond_f rfl ?_ | refine T.ret ?_ | refine T.skip ?_ | (refine T.regionFr hF 9 14 (.s 0 (.s 1 (.s 2 (.s 3 (.s 4 (.s 5 (.s 6 (.s 7 (.s 8 (.s 9 (.s 10 (.s 11 (.e 12 (.s 13 (.e 14 .nil))))))))))))))) mixed (by kernel_rfl) ?_; clear hF; intro wr hF)) | (refine G.is ?_; first | refine G.next ?_ | refine G.blockR ?_ | refine G.thenR ?_ | refine G.only ?_ | refine G.treeEnd rfl ?_ | refine G.tree rfl (by first | exact hF | exact hF.weak (List.sublist_append_right _ _) (by repeat (first | exact allR | apply allT)) | exact hF.weak (by repeat (first | exact List.Sublist.refl _ | apply List.Sublist.cons)) (by repeat (first | exact allR | apply allT)) | exact hF.weak (by repeat (first | exact List.Sublist.refl _ | apply List.Sublist.cons)) (by repeat (first | exact allN | refine allH (by repeat (first | exact memH | apply memT)) ?_))) ?_) | refine TL.nil ?_)
  have hk := lk_put (LsK.mono (Fr.lk hF (i := r * c) (l := lz) (by repeat (first | exact memH | apply memT))) (show 16384 ≤ 2097152 by omega)) hlz hp (Fr.li hF (x := u) (by repeat (first | exact memH | apply memT))) (by omega)
  refine G.retC2 rfl rfl rfl (held_agg (hF.var (b := b4) (by repeat (first | exact InV.head | apply InV.tail))) rfl) ⟨⟨(r : Int), (c : Int), some ⟨bz, 0, none⟩, r * c, r * c, lz.set (i * c + j) u⟩, rfl, ⟨⟨rfl, rfl, hr, hcc, rfl⟩, Fr.smB hF (b := bz) (l := lz.set (i * c + j) u) (by repeat (first | exact InV.head | apply InV.tail)) (by rw [List.length_set]; exact hlz), fun p q hp' hq' => ?_⟩, hF.ext, .inr ⟨bz, rfl, hbz2⟩⟩
  have h := hk (p * c + q) (place_lt hp' hq')
  dsimp only at h ⊢
  have e1 : (p * c + q) / c = p := by rw [Nat.mul_comm, Nat.mul_add_div (by omega), Nat.div_eq_of_lt hq', Nat.add_zero]
  have e2 : (p * c + q) % c = q := by rw [Nat.mul_comm, Nat.mul_add_mod, Nat.mod_eq_of_lt hq']
  have e3 : (i * c + j) / c = i := by rw [Nat.mul_comm, Nat.mul_add_div (by omega), Nat.div_eq_of_lt hj', Nat.add_zero]
  have e4 : (i * c + j) % c = j := by rw [Nat.mul_comm, Nat.mul_add_mod, Nat.mod_eq_of_lt hj']
  by_cases e : p * c + q = i * c + j
  · have h1 : p = i := by rw [← e1, e, e3]
    have h2 : q = j := by rw [← e2, e, e4]
    rw [if_pos e] at h
    unfold natF updZ
    rw [if_pos (by rw [h1, h2])]
    exact h
  · rw [if_neg e] at h
    unfold natF updZ
    rw [if_neg (fun e' => e (by have h1 := (Prod.mk.inj e').1; have h2 := (Prod.mk.inj e').2; rw [show p = i by omega, show q = j by omega]))]
    rw [hent p q hp' hq'] at h
    exact h
set_option maxRecDepth 100000 in
set_option maxHeartbeats 8000000 in
theorem dense_clear (w : World) (x : MV) (r c : Nat) (Z : ZF) (hx : LM w.heap x r c (natF Z) 16384) (a : CV) (hk : a.k = 8) (hi : 0 ≤ a.i ∧ a.i < (r : Int)) :
    Cl Try.prog 44 #[.agg (mvc x).toArray, .agg (cvc a).toArray] w (RetDY w r c (chZ Z a)) := by
  have hmu := fun (u : MV) w1 (hE : Ext w w1) (K : Nat) (F : Nat → Nat → Int) (hu : LM w1.heap u r r F K) (hK : K ≤ 1099511627780) => mmul_ok w1 u x r r c K 16384 hu.gm (hx.ext hE).gm (by omega) (by omega)
  have hent := fun p q (hp : p < r) (hq : q < c) => hx.ent hp hq
  have hs := hx.sh
  unfold chZ
  rw [if_neg (by omega), if_pos hk]
  clear hx
  have hr := hs.r64
  have hr1 := hs.er
  obtain ⟨k, i, j, v⟩ := a
  dsimp only at hk hi ⊢
  subst hk
  obtain ⟨i, rfl⟩ : ∃ n : Nat, i = (n : Int) := ⟨i.toNat, by omega⟩
  have hi' : i < r := by omega
  obtain ⟨xe, hxe⟩ : ∃ f, ent x c = f := ⟨_, rfl⟩
  rw [hxe] at hmu hent
  obtain ⟨xr, xc, A1, n1, k1, l1⟩ := x
  obtain ⟨vs, ⟨vA, vn, vc, vl⟩⟩ := v
  dsimp only at hr1 hmu
  subst hr1
  refine enter Try.func44 rfl rfl rfl ?_
  have hF := Fr.refl w
  repeat' (first | (refine TL.isOp ?_; first | (refine TL.isG ?_; first | refine TL.grun rfl rfl rfl ?_) | (refine TL.isCall ?_; refine TL.call rfl rfl ?_; first | (refine (ofm1_ok _).mono ?_; rintro _ wy ⟨⟨os, ⟨oA, on, oc, ol⟩⟩, rfl, hx1, hE, hxn1⟩; dsimp only at hxn1; have hv1 := hx1.val; replace hF := Fr.addGI (hF.exts hE) hx1.g; clear hE hx1; refine Back.mk ?_) | (refine (lunit _ r i i ⟨os, ⟨oA, on, oc, ol⟩⟩ hr hi' hi' (Fr.gi hF (by repeat (first | exact memH | apply memT))) (by (try dsimp only); omega)).mono ?_; rintro _ wu ⟨zu, rfl, hLu, hE, hf⟩; obtain ⟨Au, ku, lu, rfl⟩ := lm_mk hLu; rw [mvc_mk _ _ Au]; replace hF := Fr.addLM hF hE hLu hf; clear hE hf hLu; refine Back.mk ?_) | (refine (hmu ⟨r, r, Au, r * r, ku, lu⟩ _ hF.ext _ _ (Fr.lm hF (x := ⟨r, r, Au, r * r, ku, lu⟩) (by repeat (first | exact memH | apply memT))) (by (try dsimp only); omega)).mono ?_; rintro _ wu ⟨zp, rfl, hLp, hE, hf⟩; obtain ⟨Ap, kp, lp, rfl⟩ := lm_mk hLp; rw [mvc_mk _ _ Ap]; have hfp := hf.mono hF.ext.size; replace hF := Fr.addLM hF hE hLp hf; clear hE hf hLp; refine Back.mk ?_)) | (refine TL.isBin ?_; refine TL.cmpG rfl rfl rfl rfl (fun hc => ?_) (fun hc => ?_) <;> (try (first | (exfalso; omega) | exact absurd rfl hc))) | (apply TL.ev; (case hd => rfl); (case h => (first | exact ev_simple rfl | (apply Ev.isLoad; first | exact ev_loadFr hF rfl (by refine ⟨?_, ?_⟩; (focus (repeat (first | exact InV.head | apply InV.tail))); rfl) | exact ev_loadAFr hF rfl (by refine ⟨?_, ?_⟩; (focus (repeat (first | exact InV.head | apply InV.tail))); rfl)) | exact ev_fieldAddr rfl))) | (refine TL.storeAFr hF rfl rfl rfl rfl (by refine ⟨?_, ?_⟩; (focus (repeat (first | apply SetV.head | apply SetV.tail))); rfl) rfl ?_; clear hF; intro ws hF) | (refine TL.boxAFr hF (d := 2) (cs := [.int .i64 (r : Int), .int .i64 xc, .slice A1 n1 k1]) rfl rfl ?_; clear hF; intro w2 b2 hF) | (refine TL.boxAFr hF (d := 3) (cs := [.int .i64 8, .int .i64 (i : Int), .int .i64 j, .bool vs, .slice vA vn vc]) rfl rfl ?_; clear hF; intro w3 b3 hF) | (refine TL.allocFr hF (d := 4) rfl rfl ?_; clear hF; intro w4 b4 hF) | (refine TL.allocFr hF (d := 8) rfl rfl ?_; clear hF; intro w8 b8 hF)) | (refine TF.is ?_; first | refine TF.nil ?_ | refine TF.e rfl ?_ | refine TF.alt ?_ ?_ | (refine TF.pick rfl ?_; first | (apply TFo.ev; (case hd => rfl); (case h => (intro wh hF; first | exact ev_simple rfl | (apply Ev.isLoad; first | exact ev_loadFr hF rfl (by refine ⟨?_, ?_⟩; (focus (repeat (first | exact InV.head | apply InV.tail))); rfl) | exact ev_loadAFr hF rfl (by refine ⟨?_, ?_⟩; (focus (repeat (first | exact InV.head | apply InV.tail))); rfl)) | exact ev_fieldAddr rfl))))) | (refine T.is ?_; first | refine T.seq ?_ | refine T.region ?_ | refine T.block ?_ | refine T.cond_t rfl ?_ | refine T.cond_f rfl ?_ | refine T.ret ?_ | refine T.skip ?_ | (refine T.regionFr hF 12 16 (.s 0 (.s 1 (.s 2 (.s 3 (.s 4 (.s 5 (.s 8 (.alt (.e 6 (.alt (.e 7 (.alt (.e 9 (.s 10 (.s 11 (.s 12 (.e 13 (.e 14 (.s 15 .nil))))))) (.e 13 (.e 9 (.s 10 (.s 11 (.s 12 (.e 14 (.s 15 .nil))))))))) (.e 13 (.e 7 (.e 9 (.s 10 (.s 11 (.s 12 (.e 14 (.s 15 .nil)))))))))) (.e 13 (.e 6 (.e 7 (.e 9 (.s 10 (.s 11 (.s 12 (.e 14 (.s 15 .nil))))))))))))))))) mixed (by kernel_rfl) ?_; clear hF; intro wr hF)) | (refine G.is ?_; first | refine G.next ?_ | refine G.blockR ?_ | refine G.thenR ?_ | refine G.only ?_ | refine G.tree rfl (by first | exact hF | exact hF.weak (List.sublist_append_right _ _) (by repeat (first | exact allR | apply allT)) | exact hF.weak (by repeat (first | exact List.Sublist.refl _ | apply List.Sublist.cons)) (by repeat (first | exact allR | apply allT)) | exact hF.weak (by repeat (first | exact List.Sublist.refl _ | apply List.Sublist.cons)) (by repeat (first | exact allN | refine allH (by repeat (first | exact memH | apply memT)) ?_))) ?_) | refine TL.nil ?_)
  all_goals
    refine G.retC2 rfl rfl rfl (held_agg (hF.var (b := b4) (by repeat (first | exact InV.head | apply InV.tail))) rfl) ⟨⟨r, c, Ap, r * c, kp, lp⟩, rfl, LM.moreF (Fr.lm hF (x := ⟨r, c, Ap, r * c, kp, lp⟩) (by repeat (first | exact memH | apply memT))) (by (try dsimp only); omega) fun p q hp hq => ?_, hF.ext, hfp⟩
    have hLu := Fr.lm hF (x := ⟨r, r, Au, r * r, ku, lu⟩) (by repeat (first | exact memH | apply memT))
    rw [psum_congr (g := fun t => unF i i (-1) p t * xe t q) (fun t ht => by rw [hLu.ent hp ht, hv1]), psum_unF (fun t => xe t q) hp hi', hent p q hp hq, hent i q hi' hq]
    unfold natF clrF
    by_cases e : p = i
    · subst e; rw [if_pos rfl, if_pos rfl]; omega
    · rw [if_neg e, if_neg (by omega), Int.add_zero]
set_option maxRecDepth 100000 in
set_option maxHeartbeats 8000000 in
theorem dense_row (w : World) (x : MV) (r c : Nat) (Z : ZF) (hx : LM w.heap x r c (natF Z) 16384) (a : CV) (ha : CG w.heap a) (hv : a.v.m.n ≤ 1048576) (hk : a.k = 6) (hi : 0 ≤ a.i ∧ a.i < (r : Int)) (hj : 0 ≤ a.j ∧ a.j < (r : Int)) :
    Cl Try.prog 44 #[.agg (mvc x).toArray, .agg (cvc a).toArray] w (RetDY w r c (chZ Z a)) := by
  have hmu := fun (u : MV) w1 (hE : Ext w w1) (K : Nat) (F : Nat → Nat → Int) (hu : LM w1.heap u r r F K) (hK : K ≤ 1099511627780) => mmul_ok w1 u x r r c K 16384 hu.gm (hx.ext hE).gm (by omega) (by omega)
  have hent := fun p q (hp : p < r) (hq : q < c) => hx.ent hp hq
  have hs := hx.sh
  unfold chZ
  rw [if_neg (by omega), if_neg (by omega), if_pos hk]
  clear hx
  have hr := hs.r64
  have hr1 := hs.er
  have gv := ha.v
  clear ha
  obtain ⟨k, i, j, v⟩ := a
  dsimp only at hk hi hj hv gv ⊢
  subst hk
  obtain ⟨i, rfl⟩ : ∃ n : Nat, i = (n : Int) := ⟨i.toNat, by omega⟩
  obtain ⟨j, rfl⟩ : ∃ n : Nat, j = (n : Int) := ⟨j.toNat, by omega⟩
  have hi' : i < r := by omega
  have hj' : j < r := by omega
  have hun := fun w1 (hE : Ext w w1) => lunit w1 r i j v hr hi' hj' (gv.ext hE) (by omega)
  obtain ⟨vv, hvv⟩ : ∃ z, ival v = z := ⟨_, rfl⟩
  rw [hvv] at hun ⊢
  obtain ⟨xe, hxe⟩ : ∃ f, ent x c = f := ⟨_, rfl⟩
  rw [hxe] at hmu hent
  obtain ⟨xr, xc, A1, n1, k1, l1⟩ := x
  obtain ⟨vs, ⟨vA, vn, vc, vl⟩⟩ := v
  dsimp only at hr1 hmu hun hv
  subst hr1
  refine enter Try.func44 rfl rfl rfl ?_
  have hF := Fr.refl w
  repeat' (first | (refine TL.isOp ?_; first | (refine TL.isG ?_; first | refine TL.grun rfl rfl rfl ?_) | (refine TL.isCall ?_; refine TL.call rfl rfl ?_; first | (refine (hun _ hF.ext).mono ?_; rintro _ wu ⟨zu, rfl, hLu, hE, hf⟩; obtain ⟨Au, ku, lu, rfl⟩ := lm_mk hLu; rw [mvc_mk _ _ Au]; replace hF := Fr.addLM hF hE hLu hf; clear hE hf hLu; refine Back.mk ?_) | (refine (hmu ⟨r, r, Au, r * r, ku, lu⟩ _ hF.ext _ _ (Fr.lm hF (x := ⟨r, r, Au, r * r, ku, lu⟩) (by repeat (first | exact memH | apply memT))) (by (try dsimp only); omega)).mono ?_; rintro _ wu ⟨zp, rfl, hLp, hE, hf⟩; obtain ⟨Ap, kp, lp, rfl⟩ := lm_mk hLp; rw [mvc_mk _ _ Ap]; have hfp := hf.mono hF.ext.size; replace hF := Fr.addLM hF hE hLp hf; clear hE hf hLp; refine Back.mk ?_)) | (refine TL.isBin ?_; refine TL.cmpG rfl rfl rfl rfl (fun hc => ?_) (fun hc => ?_) <;> (try (first | (exfalso; omega) | exact absurd rfl hc))) | (apply TL.ev; (case hd => rfl); (case h => (first | exact ev_simple rfl | (apply Ev.isLoad; first | exact ev_loadFr hF rfl (by refine ⟨?_, ?_⟩; (focus (repeat (first | exact InV.head | apply InV.tail))); rfl) | exact ev_loadAFr hF rfl (by refine ⟨?_, ?_⟩; (focus (repeat (first | exact InV.head | apply InV.tail))); rfl)) | exact ev_fieldAddr rfl))) | (refine TL.storeAFr hF rfl rfl rfl rfl (by refine ⟨?_, ?_⟩; (focus (repeat (first | apply SetV.head | apply SetV.tail))); rfl) rfl ?_; clear hF; intro ws hF) | (refine TL.boxAFr hF (d := 2) (cs := [.int .i64 (r : Int), .int .i64 xc, .slice A1 n1 k1]) rfl rfl ?_; clear hF; intro w2 b2 hF) | (refine TL.boxAFr hF (d := 3) (cs := [.int .i64 6, .int .i64 (i : Int), .int .i64 (j : Int), .bool vs, .slice vA vn vc]) rfl rfl ?_; clear hF; intro w3 b3 hF) | (refine TL.allocFr hF (d := 4) rfl rfl ?_; clear hF; intro w4 b4 hF) | (refine TL.allocFr hF (d := 10) rfl rfl ?_; clear hF; intro w10 b10 hF)) | (refine TF.is ?_; first | refine TF.nil ?_ | refine TF.e rfl ?_ | refine TF.alt ?_ ?_ | (refine TF.pick rfl ?_; first | (apply TFo.ev; (case hd => rfl); (case h => (intro wh hF; first | exact ev_simple rfl | (apply Ev.isLoad; first | exact ev_loadFr hF rfl (by refine ⟨?_, ?_⟩; (focus (repeat (first | exact InV.head | apply InV.tail))); rfl) | exact ev_loadAFr hF rfl (by refine ⟨?_, ?_⟩; (focus (repeat (first | exact InV.head | apply InV.tail))); rfl)) | exact ev_fieldAddr rfl))))) | (refine T.is ?_; first | refine T.seq ?_ | refine T.region ?_ | refine T.block ?_ | refine T.cond_t rfl ?_ | refine T.cond_f rfl ?_ | refine T.ret ?_ | refine T.skip ?_ | (refine T.regionFr hF 17 17 (.s 0 (.s 1 (.s 2 (.s 3 (.s 4 (.s 5 (.s 6 (.s 7 (.s 9 (.alt (.e 8 (.alt (.e 10 (.s 11 (.s 12 (.s 13 (.e 14 (.e 15 (.s 16 .nil))))))) (.e 14 (.e 10 (.s 11 (.s 12 (.s 13 (.e 15 (.s 16 .nil))))))))) (.e 14 (.e 8 (.e 10 (.s 11 (.s 12 (.s 13 (.e 15 (.s 16 .nil)))))))))))))))))) mixed (by kernel_rfl) ?_; clear hF; intro wr hF)) | (refine G.is ?_; first | refine G.next ?_ | refine G.blockN ?_ | refine G.thenR ?_ | refine G.only ?_ | refine G.tree rfl (by first | exact hF | exact hF.weak (List.sublist_append_right _ _) (by repeat (first | exact allR | apply allT)) | exact hF.weak (by repeat (first | exact List.Sublist.refl _ | apply List.Sublist.cons)) (by repeat (first | exact allR | apply allT)) | exact hF.weak (by repeat (first | exact List.Sublist.refl _ | apply List.Sublist.cons)) (by repeat (first | exact allN | refine allH (by repeat (first | exact memH | apply memT)) ?_))) ?_) | refine TL.nil ?_)
  all_goals
    refine G.retC2 rfl rfl rfl (held_agg (hF.var (b := b4) (by repeat (first | exact InV.head | apply InV.tail))) rfl) ⟨⟨r, c, Ap, r * c, kp, lp⟩, rfl, LM.moreF (Fr.lm hF (x := ⟨r, c, Ap, r * c, kp, lp⟩) (by repeat (first | exact memH | apply memT))) (by (try dsimp only); omega) fun p q hp hq => ?_, hF.ext, hfp⟩
    have hLu := Fr.lm hF (x := ⟨r, r, Au, r * r, ku, lu⟩) (by repeat (first | exact memH | apply memT))
    rw [psum_congr (g := fun t => unF i j vv p t * xe t q) (fun t ht => by rw [hLu.ent hp ht]), psum_unF (fun t => xe t q) hp hj', hent p q hp hq, hent j q hj' hq]
    unfold natF rowF
    by_cases e : p = i
    · subst e; rw [if_pos rfl, if_pos rfl]
    · rw [if_neg e, if_neg (by omega), Int.add_zero]
end Go.Proofs.Ytlpheckjogphmaa
