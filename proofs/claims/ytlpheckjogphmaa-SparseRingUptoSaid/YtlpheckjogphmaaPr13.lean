/- Layer 10: the contract of Dense. Layer 10: Of refused, the law's long and mats. Layer 10: the law's mats; grids whose sizes do not fit. Layer 9: Scale, VecMul, Sub, Add and Sub of shapes that do not go, Equal. Layer 10: products and sums of small grids; grids whose sizes do not fit. Layer 10: SparseRing where a matrix has no grid. Layer 10: entries of products and sums of small grids. -/
import Derived.Test.YtlpheckjogphmaaPr12
import Derived.Test.YtlpheckjogphmaaPr9
import Derived.Test.YtlpheckjogphmaaPr8
set_option linter.unusedVariables false
set_option linter.unusedSimpArgs false
set_option linter.unusedSectionVars false
namespace Go.Eng
open Go Go.Proofs Go.NatM Go.RowKit Go.Proofs.Ytlpheckjogphmaa
theorem lk_put {H : Array Obj} {n K idx : Nat} {l : List IV} {Z : Nat → Int} {x : IV} {z : Int} (h : LsK n l Z K H) (hl : l.length = n) (hi : idx < n) (hx : LI H z x) (hn : x.m.n ≤ K) : LsK n (l.set idx x) (fun q => if q = idx then z else Z q) K H := fun q hq => by
  by_cases e : q = idx
  · subst e
    have : (l.set q x).getD q default = x := by simp [List.getD, show q < l.length by omega]
    rw [this]
    dsimp only
    rw [if_pos rfl]
    exact ⟨hx, hn⟩
  · have : (l.set idx x).getD q default = l.getD q default := by simp only [List.getD]; rw [List.getElem?_set_ne (fun h => e h.symm)]
    rw [this]
    dsimp only
    rw [if_neg e]
    exact h q hq
/-- nothing stands outside r rows and c columns -/
def InRC (r c : Nat) (Z : ZF) : Prop := ∀ k, Z k ≠ 0 → (0 ≤ k.1 ∧ k.1 < (r : Int)) ∧ (0 ≤ k.2 ∧ k.2 < (c : Int))
/-- a matrix' place, from its number -/
def plq (c q : Nat) : Int × Int := (((q / c : Nat) : Int), ((q % c : Nat) : Int))
theorem plq_iff {c a b q : Nat} (hb : b < c) : (((a : Nat) : Int), ((b : Nat) : Int)) = plq c q ↔ q = a * c + b := by
  unfold plq
  constructor
  · intro h
    have h1 := (Prod.mk.inj h).1
    have h2 := (Prod.mk.inj h).2
    have h3 := Nat.div_add_mod q c
    have h4 : a = q / c := by omega
    have h5 : b = q % c := by omega
    rw [h4, h5, Nat.mul_comm]; omega
  · rintro rfl
    have h1 : (a * c + b) / c = a := by rw [Nat.mul_comm, Nat.mul_add_div (by omega), Nat.div_eq_of_lt hb, Nat.add_zero]
    have h2 : (a * c + b) % c = b := by rw [Nat.mul_comm, Nat.mul_add_mod, Nat.mod_eq_of_lt hb]
    rw [h1, h2]
theorem den_step {ls : GL} {N i c a b : Nat} {Z : ZF} {y : IV} (h : PlF ls Z N) (hp : ls[i]? = some (((a : Int), (b : Int)), y)) (hb : b < c) : (fun q => if q = a * c + b then ival y else zv (ls.take i) (plq c q)) = fun q => zv (ls.take (i + 1)) (plq c q) := funext fun q => by
  have ht : ls.take (i + 1) = ls.take i ++ [(((a : Int), (b : Int)), y)] := by rw [List.take_add_one, hp]; rfl
  have hno : ((a : Int), (b : Int)) ∉ (ls.take i).map (·.1) := fun hm => by
    have hn := h.nd
    have e : ls = ls.take i ++ [(((a : Int), (b : Int)), y)] ++ ls.drop (i + 1) := by rw [← ht, List.take_append_drop]
    rw [e, List.map_append, List.map_append] at hn
    have h1 := (List.nodup_append.1 hn).1
    have h2 := (List.nodup_append.1 h1).2.2
    exact h2 _ hm _ (by simp) rfl
  rw [ht, zv_snoc hno]
  dsimp only
  by_cases hq : q = a * c + b
  · rw [if_pos hq, if_pos ((plq_iff hb).2 hq)]
  · rw [if_neg hq, if_neg fun e => hq ((plq_iff hb).1 e)]
end Go.Eng
namespace Go.Proofs.Ytlpheckjogphmaa
open Go Go.Eng Go.Proofs Go.NatM Go.RowKit
/-- a grid's matrix -/
def RetDn (w : World) (r c : Nat) (Z : ZF) (e : Ending) (w' : World) : Prop := ∃ x : MV, e = .returned (.tuple #[.agg (mvc x).toArray, .int .i64 0]) ∧ LM w'.heap x r c (fun i j => Z ((i : Int), (j : Int))) 16384 ∧ Ext w w' ∧ MF w x
set_option maxRecDepth 100000 in
set_option maxHeartbeats 8000000 in
theorem denseS (w : World) (g m r c N : Nat) (Z : ZF) (hG : GZ w.heap g m r c Z N) (hi : InRC r c Z) (hr : r ≤ 64) (hcc : c ≤ 64) (hN : N ≤ 4096) :
    Cl Try.prog 34 #[.pointer (some ⟨g, 0, none⟩)] w (RetDn w r c Z) := by
  have hpl := fun w1 (hE : Ext w w1) => placesS w1 g m r c N Z (hG.ext hE) hN
  obtain ⟨l, hGr, hz, hlN, hv⟩ := hG
  have hF := Gr.fr hGr fun _ => False
  clear hGr
  have hrc := mul64 hr hcc
  refine enter Try.func34 rfl rfl rfl ?_
  repeat' (first | (refine TL.isOp ?_; first | (refine TL.isG ?_; first | refine TL.grun rfl rfl rfl ?_) | (refine TL.isBin ?_; refine TL.cmpG rfl rfl rfl rfl (fun hc => ?_) (fun hc => ?_) <;> (try (first | (exfalso; omega) | exact absurd rfl hc))) | (apply TL.ev; (case hd => rfl); (case h => (first | exact ev_simple rfl | (apply Ev.isBin; first | exact ev_eqlP rfl rfl rfl) | (apply Ev.isLoad; first | exact ev_loadCb hF rfl (by repeat (first | exact memH | apply memT)) rfl) | exact ev_fieldAddr rfl | exact ev_nilCheck rfl))) | (refine TL.allocFr hF (d := 2) rfl rfl ?_; clear hF; intro w2 b2 hF)) | (refine T.is ?_; first | refine T.seqM 5 rfl ?_ | refine T.region ?_ | refine T.cond_f rfl ?_ | refine T.skip ?_) | (refine G.is ?_; first | refine G.next ?_) | refine TL.nil ?_)
  refine T.cut (α := Nat × List IV × Nat) (fun x => [(0, .pointer (some ⟨g, 0, none⟩)), (2, .pointer (some ⟨b2, 0, none⟩)), (4, .pointer (some ⟨x.2.2, 0, none⟩)), (5, .int .i64 0)])
    (fun x w' => x.2.1.length = r * c ∧ w.heap.size ≤ x.1 ∧ Fr w w' [⟨x.2.2, 24, [.int .i64 (r : Int), .int .i64 (c : Int), .slice (some ⟨x.1, 0, none⟩) (r * c) (r * c)]⟩, ⟨x.1, 42, x.2.1.flatMap ivc⟩, ⟨b2, 24, [.int .i64 0, .int .i64 0, .slice none 0 0]⟩] [dpLK (r * c) x.2.1 (fun _ => 0) 0, dpCb g 96 (grc r c m)]) ?_ ?_
  · repeat' (first | (refine TL.isOp ?_; first | (refine TL.isCall ?_; refine TL.call rfl rfl ?_; first | (refine (mzeroV _ r c hr hcc).mono ?_; rintro _ wz ⟨bz, lz, rfl, hVz, hlz, hgz, hE, hbz⟩; have hbz2 := Nat.le_trans hF.exs.size hbz; replace hF := Fr.addLK (hF.newGe hbz hVz hE) hgz; clear hE hgz hVz; refine Back.mk ?_)) | (refine TL.storeAFr hF rfl rfl rfl rfl (by refine ⟨?_, ?_⟩; (focus (repeat (first | apply SetV.head | apply SetV.tail))); rfl) rfl ?_; clear hF; intro ws hF) | (refine TL.allocFr hF (d := 4) rfl rfl ?_; clear hF; intro w4 b4 hF)) | (refine TF.is ?_; first | refine TF.nil ?_ | refine TF.e rfl ?_ | refine TF.alt ?_ ?_ | (refine TF.pick rfl ?_; first | (apply TFo.ev; (case hd => rfl); (case h => (intro wh hF; first | exact ev_simple rfl | (apply Ev.isLoad; first | exact ev_loadCb hF rfl (by repeat (first | exact memH | apply memT)) rfl) | exact ev_fieldAddr rfl | exact ev_nilCheck rfl))))) | (refine T.is ?_; first | (refine T.regionFr hF 5 15 (.s 0 (.s 1 (.s 2 (.s 3 (.s 4 (.s 5 (.s 6 (.s 7 (.alt (.e 8 (.s 9 (.s 10 (.s 11 (.e 12 (.e 13 (.s 14 .nil))))))) (.e 12 (.e 8 (.s 9 (.s 10 (.s 11 (.e 13 (.s 14 .nil)))))))))))))))) mixed (by kernel_rfl) ?_; clear hF; intro wr hF)) | (refine G.is ?_; first | refine G.only ?_ | refine G.tree rfl (by first | exact hF | exact hF.weak (List.sublist_append_right _ _) (by repeat (first | exact allR | apply allT)) | exact hF.weak (by repeat (first | exact List.Sublist.refl _ | apply List.Sublist.cons)) (by repeat (first | exact allR | apply allT)) | exact hF.weak (by repeat (first | exact List.Sublist.refl _ | apply List.Sublist.cons)) (by repeat (first | exact allN | refine allH (by repeat (first | exact memH | apply memT)) ?_))) ?_) | refine TL.nil ?_)
    all_goals exact G.cut (bz, lz, b4) (by repeat (first | exact Sub.nil _ | refine Sub.cons rfl ?_ | refine Sub.cons' rfl (int_congr (by omega)) ?_)) ⟨hlz, hbz2, by first | exact hF.weak (List.Sublist.refl _) (allH (by repeat (first | exact memH | apply memT)) (allH (by repeat (first | exact memH | apply memT)) allN)) | exact hF.swap.weak (List.Sublist.refl _) (allH (by repeat (first | exact memH | apply memT)) (allH (by repeat (first | exact memH | apply memT)) allN))⟩
  clear hF
  rintro ⟨bz, lz, b4⟩ w1 ⟨hlz, hbz2, hF⟩
  dsimp only at hlz hbz2 hF ⊢
  repeat' (first | (refine TL.isOp ?_; first | (refine TL.isCall ?_; refine TL.call rfl rfl ?_; first | (refine (hpl _ hF.ext).mono ?_; rintro _ wy ⟨l1, b1, c1, rfl, hE, hb1, hs1, hv1, hp1⟩; replace hF := hF.addPl hE hb1 hs1 hv1; clear hE hs1 hv1 hb1; refine Back.mk ?_)) | (apply TL.ev; (case hd => rfl); (case h => (first | exact ev_simple rfl | exact ev_len rfl)))) | (refine T.is ?_; first | refine T.seq ?_ | refine T.region ?_ | refine T.block ?_) | (refine G.is ?_; first | refine G.next ?_) | refine TL.nil ?_)
  have hK0 : LsK (r * c) lz (fun q => zv (l1.take 0) (plq c q)) 16384 _ := fun q hq => ⟨((Fr.lk hF (i := r * c) (l := lz) (by repeat (first | exact memH | apply memT))) q hq).1, Nat.le_trans ((Fr.lk hF (i := r * c) (l := lz) (by repeat (first | exact memH | apply memT))) q hq).2 (Nat.zero_le _)⟩
  replace hF := (Fr.addLK hF hK0).swap
  clear hK0
  refine T.loop (α := Nat × List IV) (fun x => [(0, .pointer (some ⟨g, 0, none⟩)), (2, .pointer (some ⟨b2, 0, none⟩)), (4, .pointer (some ⟨b4, 0, none⟩)), (5, .int .i64 0), (37, .slice (some ⟨b1, 0, none⟩) N c1), (38, .int .i64 (N : Int)), (39, .int .i64 (x.1 : Int))])
    (fun x w' => x.1 ≤ N ∧ x.2.length = r * c ∧ Fr w w' [⟨bz, 42, x.2.flatMap ivc⟩, ⟨b4, 24, [.int .i64 (r : Int), .int .i64 (c : Int), .slice (some ⟨bz, 0, none⟩) (r * c) (r * c)]⟩, ⟨b2, 24, [.int .i64 0, .int .i64 0, .slice none 0 0]⟩] [dpLK (r * c) x.2 (fun q => zv (l1.take x.1) (plq c q)) 16384, dpGv l1, dpSmG 4 plc (some ⟨b1, 0, none⟩) N c1 l1, dpCb g 96 (grc r c m)]) (fun x => N - x.1) (0, lz) (by repeat (first | exact Sub.nil _ | refine Sub.cons rfl ?_ | refine Sub.cons' rfl (int_congr (by omega)) ?_)) ⟨Nat.zero_le _, hlz, hF.weak (List.Sublist.refl _) (allH (by repeat (first | exact memH | apply memT)) (allH (by repeat (first | exact memH | apply memT)) (allH (by repeat (first | exact memH | apply memT)) (allH (by repeat (first | exact memH | apply memT)) allN))))⟩ ?_
  clear hF hlz lz
  rintro ⟨i, lz⟩ w3 ⟨hiN, hlz, hF⟩
  dsimp only at hiN hlz hF ⊢
  rcases Nat.lt_or_ge i N with hin | hin
  · obtain ⟨p, hp⟩ : ∃ p, l1[i]? = some p := ⟨_, List.getElem?_eq_getElem (by rw [hp1.len]; exact hin)⟩
    have hgp := Fr.gv (l := l1) hF (by repeat (first | exact memH | apply memT)) p (List.mem_of_getElem? hp)
    have hZp : Z p.1 ≠ 0 := by
      rw [← hp1.val, zv_mem hp1.nd (List.mem_of_getElem? hp)]
      exact hp1.nz p (List.mem_of_getElem? hp)
    have hrg := hi p.1 hZp
    obtain ⟨⟨p1, p2⟩, ⟨ys, ⟨yA, yn, yc, yl⟩⟩⟩ := p
    dsimp only at hrg hgp
    obtain ⟨a, rfl⟩ : ∃ a : Nat, p1 = (a : Int) := ⟨p1.toNat, by omega⟩
    obtain ⟨b, rfl⟩ : ∃ b : Nat, p2 = (b : Int) := ⟨p2.toNat, by omega⟩
    have har : a < r := by omega
    have hbc : b < c := by omega
    have hidx := place_lt har hbc
    have hac : a * c ≤ 4096 := by omega
    have hil : a * c + b < lz.length := by omega
    replace hF := Fr.addLI hF hgp.1
    have hgn := hgp.2
    clear hgp hZp hrg
    repeat' (first | (refine TL.isOp ?_; first | (refine TL.isBin ?_; refine TL.cmpG rfl rfl rfl rfl (fun hc => ?_) (fun hc => ?_) <;> (try (first | (exfalso; omega) | exact absurd rfl hc))) | (apply TL.ev; (case hd => rfl); (case h => (first | exact ev_simple rfl | (apply Ev.isBin; first | exact ev_arN rfl rfl rfl (by omega)) | (apply Ev.isLoad; first | exact ev_loadMc [.int .i64 (a : Int), .int .i64 (b : Int), .bool ys, .slice yA yn yc] rfl (Fr.smG hF (l := l1) (by repeat (first | exact memH | apply memT))) hp rfl) | exact ev_indexM rfl rfl hin (Fr.smG hF (l := l1) (by repeat (first | exact memH | apply memT))).some))) | (refine TL.storeAFr hF rfl rfl rfl rfl (by refine ⟨?_, ?_⟩; (focus (repeat (first | apply SetV.head | apply SetV.tail))); rfl) rfl ?_; clear hF; intro ws hF) | (refine TL.allocFr hF (d := 7) rfl rfl ?_; clear hF; intro w7 b7 hF) | (refine TL.storeAtFr hF (f := ivc) ⟨ys, ⟨yA, yn, yc, yl⟩⟩ rfl rfl rfl rfl (fun _ => rfl) hil (ivc_noV lz) (by repeat (first | apply SetV.head | apply SetV.tail)) ?_; clear hF; intro ws hF)) | (refine TF.is ?_; first | refine TF.nil ?_ | refine TF.e rfl ?_ | (refine TF.pick rfl ?_; first | (apply TFo.ev; (case hd => rfl); (case h => (intro wh hF; first | exact ev_simple rfl | (apply Ev.isBin; first | exact ev_arN rfl rfl rfl (by omega)) | (apply Ev.isLoad; first | exact ev_loadFr hF rfl (by refine ⟨?_, ?_⟩; (focus (repeat (first | exact InV.head | apply InV.tail))); rfl) | exact ev_loadAFr hF rfl (by refine ⟨?_, ?_⟩; (focus (repeat (first | exact InV.head | apply InV.tail))); rfl) | exact ev_loadCb hF rfl (by repeat (first | exact memH | apply memT)) rfl) | exact ev_fieldAddr rfl | exact ev_nilCheck rfl | exact ev_indexM rfl rfl hidx (.inr rfl)))))) | (refine T.is ?_; first | refine T.seq ?_ | refine T.region ?_ | refine T.block ?_ | refine T.cond_t rfl ?_ | refine T.skip ?_ | (refine T.regionFt hF.swap 9 15 (.s 0 (.s 1 (.s 2 (.s 3 (.s 4 (.s 5 (.s 6 (.s 7 (.s 8 (.s 9 (.s 10 (.s 11 (.s 12 (.s 13 (.s 14 (.e 15 .nil)))))))))))))))) mixed (by kernel_rfl) ?_; clear hF; intro wr hF)) | (refine G.is ?_; first | refine G.next ?_ | refine G.blockN ?_ | refine G.only ?_ | refine G.treeEnd rfl ?_) | refine TL.nil ?_)
    all_goals
      have hk := lk_put (Fr.lk hF (i := r * c) (l := lz) (by repeat (first | exact memH | apply memT))) hlz hidx (Fr.li hF (x := ⟨ys, ⟨yA, yn, yc, yl⟩⟩) (by repeat (first | exact memH | apply memT))) hgn
      rw [den_step hp1 hp hbc] at hk
      exact G.again (i + 1, lz.set (a * c + b) ⟨ys, ⟨yA, yn, yc, yl⟩⟩) (by repeat (first | exact Sub.nil _ | refine Sub.cons rfl ?_ | refine Sub.cons' rfl (int_congr (by omega)) ?_)) ⟨hin, by dsimp only; rw [List.length_set]; exact hlz, (Fr.addLK hF hk).weak (List.Sublist.cons_cons _ (List.Sublist.cons _ (List.Sublist.refl _))) (allH (by repeat (first | exact memH | apply memT)) (allH (by repeat (first | exact memH | apply memT)) (allH (by repeat (first | exact memH | apply memT)) (allH (by repeat (first | exact memH | apply memT)) allN))))⟩ (by dsimp only; omega)
  · obtain rfl : i = N := by omega
    repeat' (first | (refine TL.isOp ?_; first | (refine TL.isBin ?_; refine TL.cmpG rfl rfl rfl rfl (fun hc => ?_) (fun hc => ?_) <;> (try (first | (exfalso; omega) | exact absurd rfl hc))) | (apply TL.ev; (case hd => rfl); (case h => (first | exact ev_simple rfl | (apply Ev.isLoad; first | exact ev_loadAFr hF rfl (by refine ⟨?_, ?_⟩; (focus (repeat (first | exact InV.head | apply InV.tail))); rfl))))) | (refine TL.storeAFr hF rfl rfl rfl rfl (by refine ⟨?_, ?_⟩; (focus (repeat (first | apply SetV.head | apply SetV.tail))); rfl) rfl ?_; clear hF; intro ws hF)) | (refine T.is ?_; first | refine T.seq ?_ | refine T.region ?_ | refine T.cond_f rfl ?_ | refine T.exit ?_ | refine T.ret ?_) | (refine G.is ?_; first | refine G.next ?_ | refine G.blockE ?_ | refine G.thenE ?_) | refine TL.nil ?_)
    have hVz := hF.var (b := bz) (by repeat (first | exact InV.head | apply InV.tail))
    have hlk := Fr.lk hF (i := r * c) (l := lz) (by repeat (first | exact memH | apply memT))
    have htk : l1.take i = l1 := List.take_of_length_le (by rw [hp1.len]; exact Nat.le_refl _)
    rw [htk] at hlk
    refine G.retC2 rfl rfl rfl (held_agg (hF.var (b := b2) (by repeat (first | exact InV.head | apply InV.tail))) rfl) ⟨⟨(r : Int), (c : Int), some ⟨bz, 0, none⟩, r * c, r * c, lz⟩, rfl, ⟨⟨rfl, rfl, hr, hcc, rfl⟩, vr_sm (zs := []) (by omega) (fun _ _ => rfl) (by rw [List.append_nil]; exact hVz) hlz (Nat.le_refl _) hVz.lt, fun u v hu hv2 => ?_⟩, hF.ext, .inr ⟨bz, rfl, hbz2⟩⟩
    have := hlk (u * c + v) (place_lt hu hv2)
    dsimp only at this
    rw [← (plq_iff (a := u) hv2).2 rfl, hp1.val] at this
    exact this
end Go.Proofs.Ytlpheckjogphmaa

set_option linter.unusedSectionVars false
namespace Go.Proofs.Ytlpheckjogphmaa
open Go Go.Eng Go.Proofs Go.NatM Go.RowKit
set_option maxHeartbeats 4000000 in
theorem ofBad (w : World) (x : MV) (hx : InR x) (hn : ¬ ∃ r c, Sound x r c) :
    Cl Try.prog 9 #[.agg (mvc x).toArray] w (RetLg w 1) := by
  have hck := fun w1 => chk_bad w1 x hx hn
  obtain ⟨xr, xc, A, n, k, l⟩ := x
  refine enterM Try.func9 rfl rfl rfl (fun _ h => by cases h.1) ?_
  have hF := Fr.refl w
  repeat' (first | (refine TL.isOp ?_; first | (refine TL.isCall ?_; refine TL.call rfl rfl ?_; first | (refine (hck _).mono ?_; rintro _ wy ⟨rfl, hE⟩; replace hF := hF.exts hE; clear hE; refine Back.mk ?_)) | (refine TL.isBin ?_; refine TL.cmpG rfl rfl rfl rfl (fun hc => ?_) (fun hc => ?_) <;> (try (first | (exfalso; omega) | exact absurd rfl hc))) | (apply TL.ev; (case hd => rfl); (case h => (first | exact ev_simple rfl | (apply Ev.isLoad; first | exact ev_loadAFr hF rfl (by refine ⟨?_, ?_⟩; (focus (repeat (first | exact InV.head | apply InV.tail))); rfl))))) | (refine TL.boxAFr hF (d := 1) (cs := [.int .i64 xr, .int .i64 xc, .slice A n k]) rfl rfl ?_; clear hF; intro w1 b1 hF)) | (refine G.is ?_; first | refine G.nextI ?_ | refine G.thenR ?_) | refine TL.nil ?_ | (refine TI.is ?_; first | refine TI.seq ?_ | refine TI.region rfl ?_ | refine TI.cond_t rfl ?_ | refine TI.ret ?_))
  all_goals exact G.retM2 rfl rfl rfl ⟨rfl, hF.ext⟩
set_option maxHeartbeats 4000000 in
theorem ofLarge (w : World) (x : MV) (r c : Nat) (gx : GM w.heap x r c 1048576) (hb : ∃ y ∈ x.l, big y) :
    Cl Try.prog 9 #[.agg (mvc x).toArray] w (RetLg w 5) := by
  have hck := fun w1 => chk_ok w1 x r c gx.sh
  have hcl := fun w1 (hE : Ext w w1) => containsLong w1 x.n x.k x.A x.l (gx.s.ext hE).size (by have := gx.sh.n; have h1 := Nat.mul_le_mul gx.sh.r64 gx.sh.c64; omega) (fun y hy => ⟨(gx.g y hy).1.ext hE, Nat.le_trans (gx.g y hy).2 (by omega)⟩) true ⟨fun _ => hb, fun _ => rfl⟩
  obtain ⟨xr, xc, A, n, k, l⟩ := x
  dsimp only at hcl
  refine enterM Try.func9 rfl rfl rfl (fun _ h => by cases h.1) ?_
  have hF := Fr.refl w
  repeat' (first | (refine TL.isOp ?_; first | (refine TL.isCall ?_; refine TL.call rfl rfl ?_; first | (refine (hck _).mono ?_; rintro _ wy ⟨rfl, hE⟩; replace hF := hF.exts hE; clear hE; refine Back.mk ?_) | (refine (hcl _ hF.ext).mono ?_; rintro _ wy ⟨rfl, hE⟩; replace hF := hF.exts hE; clear hE; refine Back.mk ?_)) | (refine TL.isBin ?_; refine TL.cmpG rfl rfl rfl rfl (fun hc => ?_) (fun hc => ?_) <;> (try (first | (exfalso; omega) | exact absurd rfl hc))) | (apply TL.ev; (case hd => rfl); (case h => (first | exact ev_simple rfl | (apply Ev.isLoad; first | exact ev_loadFr hF rfl (by refine ⟨?_, ?_⟩; (focus (repeat (first | exact InV.head | apply InV.tail))); rfl) | exact ev_loadAFr hF rfl (by refine ⟨?_, ?_⟩; (focus (repeat (first | exact InV.head | apply InV.tail))); rfl)) | exact ev_fieldAddr rfl))) | (refine TL.boxAFr hF (d := 1) (cs := [.int .i64 xr, .int .i64 xc, .slice A n k]) rfl rfl ?_; clear hF; intro w1 b1 hF)) | (refine G.is ?_; first | refine G.nextI ?_ | refine G.thenR ?_) | refine TL.nil ?_ | (refine TI.is ?_; first | refine TI.seq ?_ | refine TI.region rfl ?_ | refine TI.cond_t rfl ?_ | refine TI.cond_f rfl ?_ | refine TI.ret ?_ | refine TI.skip ?_))
  all_goals exact G.retM2 rfl rfl rfl ⟨rfl, hF.ext⟩
theorem iv_blB (w : World) (x : IV) (g : GI w.heap x) (hn : x.m.n ≤ 1099511627776) : Cl Try.prog 29 #[.slice x.m.A x.m.n x.m.c] w (fun e w' => e = .returned (.int .i64 ((bl (ival x).natAbs : Nat) : Int)) ∧ Ext w w') := by
  rw [ival_nat]
  exact (bitlen_ok w.heap _ x.m.A x.m.n x.m.c x.m.l g.s g.u (by omega)).cl.mono fun e w' h => ⟨h.1, h.2.ext⟩
/-- the law's long -/
theorem longL (w : World) (x : MV) (K : Nat) (hs : Sm 2 ivc w.heap w.heap.size x.A x.n x.k x.l) (hg : ∀ y ∈ x.l, GI w.heap y ∧ y.m.n ≤ K) (hK : K ≤ 1099511627776) (hn : x.n ≤ 1048576) (b : Bool) (hb : b = true ↔ ∃ y ∈ x.l, big y) :
    Cl Try.prog 12 #[.agg (mvc x).toArray] w (fun e w' => e = .returned (.bool b) ∧ Ext w w') := by
  obtain ⟨xr, xc, A, n, k, l⟩ := x
  dsimp only at hs hg hn hb
  have hl := hs.len
  refine enter Try.func12 rfl rfl rfl ?_
  have hF := Fr.refl w
  repeat' (first | (refine TL.isOp ?_; first | (apply TL.ev; (case hd => rfl); (case h => (first | exact ev_simple rfl))) | (refine TL.boxAFr hF (d := 1) (cs := [.int .i64 xr, .int .i64 xc, .slice A n k]) rfl rfl ?_; clear hF; intro w1 b1 hF)) | (refine T.is ?_; first | refine T.seq ?_ | refine T.region ?_ | refine T.block ?_) | (refine G.is ?_; first | refine G.next ?_) | refine TL.nil ?_)
  refine T.loop (α := Nat) (fun i => [(1, .pointer (some ⟨b1, 0, none⟩)), (3, .int .i64 (i : Int))]) (fun i w' => i ≤ n ∧ (∀ j y, j < i → l[j]? = some y → ¬ big y) ∧ Fr w w' [⟨b1, 24, [.int .i64 xr, .int .i64 xc, .slice A n k]⟩] []) (fun i => n - i) 0 (by repeat (first | exact Sub.nil _ | refine Sub.cons rfl ?_ | refine Sub.cons' rfl (int_congr (by omega)) ?_)) ⟨Nat.zero_le _, fun j y h => absurd h (Nat.not_lt_zero _), hF⟩ ?_
  clear hF
  rintro i w1 ⟨hi, hnb, hF⟩
  rcases Nat.lt_or_ge i n with hin | hin
  · obtain ⟨y, hy⟩ : ∃ y, l[i]? = some y := ⟨_, List.getElem?_eq_getElem (by omega)⟩
    have gy := hg y (List.mem_of_getElem? hy)
    have hym := List.mem_of_getElem? hy
    rcases hs.mem with h0 | ⟨bA, oA, rfl, _⟩
    · exact absurd h0 (by omega)
    have hbl := fun w1 (hE : Ext w w1) => iv_blB w1 y (gy.1.ext hE) (by omega)
    obtain ⟨q, hq⟩ : ∃ q, bl (ival y).natAbs = q := ⟨_, rfl⟩
    rw [hq] at hbl
    have hbq : big y ↔ 1048576 < q := by rw [big_iff]; unfold bigZ; rw [hq]
    obtain ⟨ys, ⟨yA, yn, yc, yl⟩⟩ := y
    dsimp only at hbl
    by_cases hlt : 1048576 < q
    · repeat' (first | (refine TL.isOp ?_; first | (refine TL.isCall ?_; refine TL.call rfl rfl ?_; first | (refine (hbl _ hF.ext).mono ?_; rintro _ wc ⟨rfl, hE⟩; replace hF := hF.exts hE; clear hE; refine Back.mk ?_)) | (refine TL.isBin ?_; refine TL.cmpG rfl rfl rfl rfl (fun hc => ?_) (fun hc => ?_) <;> (try (first | (exfalso; omega) | exact absurd rfl hc))) | (apply TL.ev; (case hd => rfl); (case h => (first | exact ev_simple rfl | (apply Ev.isLoad; first | exact ev_loadFr hF rfl (by refine ⟨?_, ?_⟩; (focus (repeat (first | exact InV.head | apply InV.tail))); rfl) | exact ev_loadMF rfl (hs.ext hF.ext) hy rfl) | exact ev_len rfl | exact ev_fieldAddr rfl | exact ev_fieldAddrE rfl rfl | exact ev_indexM rfl rfl hin (hs.ext hF.ext).some)))) | (refine T.is ?_; first | refine T.seq ?_ | refine T.region ?_ | refine T.block ?_ | refine T.cond_t rfl ?_ | refine T.ret ?_ | refine T.skip ?_) | (refine G.is ?_; first | refine G.next ?_ | refine G.blockR ?_ | refine G.thenR ?_) | refine TL.nil ?_)
      have e : b = true := hb.2 ⟨_, hym, hbq.2 hlt⟩
      subst e
      all_goals exact G.ret1 rfl rfl ⟨rfl, hF.ext⟩
    · repeat' (first | (refine TL.isOp ?_; first | (refine TL.isCall ?_; refine TL.call rfl rfl ?_; first | (refine (hbl _ hF.ext).mono ?_; rintro _ wc ⟨rfl, hE⟩; replace hF := hF.exts hE; clear hE; refine Back.mk ?_)) | (refine TL.isBin ?_; refine TL.cmpG rfl rfl rfl rfl (fun hc => ?_) (fun hc => ?_) <;> (try (first | (exfalso; omega) | exact absurd rfl hc))) | (apply TL.ev; (case hd => rfl); (case h => (first | exact ev_simple rfl | (apply Ev.isBin; first | exact ev_arN rfl rfl rfl (by omega)) | (apply Ev.isLoad; first | exact ev_loadFr hF rfl (by refine ⟨?_, ?_⟩; (focus (repeat (first | exact InV.head | apply InV.tail))); rfl) | exact ev_loadMF rfl (hs.ext hF.ext) hy rfl) | exact ev_len rfl | exact ev_fieldAddr rfl | exact ev_fieldAddrE rfl rfl | exact ev_indexM rfl rfl hin (hs.ext hF.ext).some)))) | (refine T.is ?_; first | refine T.seq ?_ | refine T.region ?_ | refine T.block ?_ | refine T.cond_t rfl ?_ | refine T.cond_f rfl ?_ | refine T.skip ?_) | (refine G.is ?_; first | refine G.next ?_ | refine G.blockN ?_) | refine TL.nil ?_)
      all_goals exact G.again (i + 1) (by repeat (first | exact Sub.nil _ | refine Sub.cons rfl ?_ | refine Sub.cons' rfl (int_congr (by omega)) ?_)) ⟨hin, fun j z hj hz => by
        rcases Nat.lt_or_ge j i with h | h
        · exact hnb j z h hz
        · obtain rfl : j = i := by omega
          rw [hy] at hz
          obtain rfl := Option.some.inj hz
          exact fun h => hlt (hbq.1 h), hF⟩ (by omega)
  · obtain rfl : i = n := by omega
    repeat' (first | (refine TL.isOp ?_; first | (refine TL.isBin ?_; refine TL.cmpG rfl rfl rfl rfl (fun hc => ?_) (fun hc => ?_) <;> (try (first | (exfalso; omega) | exact absurd rfl hc))) | (apply TL.ev; (case hd => rfl); (case h => (first | exact ev_simple rfl | (apply Ev.isLoad; first | exact ev_loadFr hF rfl (by refine ⟨?_, ?_⟩; (focus (repeat (first | exact InV.head | apply InV.tail))); rfl)) | exact ev_len rfl | exact ev_fieldAddr rfl)))) | (refine T.is ?_; first | refine T.seq ?_ | refine T.region ?_ | refine T.cond_f rfl ?_ | refine T.exit ?_ | refine T.ret ?_) | (refine G.is ?_; first | refine G.next ?_ | refine G.blockE ?_ | refine G.thenE ?_) | refine TL.nil ?_)
    have e : b = false := by
      cases b with
      | false => rfl
      | true =>
        obtain ⟨y, hy, h⟩ := hb.1 rfl
        obtain ⟨j, hj⟩ := List.mem_iff_getElem?.1 hy
        exact absurd h (hnb j y (by rw [← hl]; exact (List.getElem?_eq_some_iff.1 hj).1) hj)
    subst e
    all_goals exact G.ret1 rfl rfl ⟨rfl, hF.ext⟩
end Go.Proofs.Ytlpheckjogphmaa

set_option linter.unusedSectionVars false
namespace Go.Proofs.Ytlpheckjogphmaa
open Go Go.Eng Go.Proofs Go.NatM Go.RowKit
set_option maxHeartbeats 4000000 in
theorem matsT (w : World) (x y : MV) (r c K K' : Nat) (F F' : Nat → Nat → Int) (hx : LM w.heap x r c F K) (hy : LM w.heap y r c F' K') (hF' : ∀ i j, i < r → j < c → F i j = F' i j) (hK : K ≤ 1099511627776) (hK' : K' ≤ 1099511627776) :
    Cl Try.prog 40 #[.agg (mvc x).toArray, .agg (mvc y).toArray] w (YesM w) := by
  have e1 := hx.sh
  have e2 := hy.sh
  have sx := hx.s
  have sy := hy.s
  have gx := hx.g
  have gy := hy.g
  clear hx hy
  obtain ⟨xr, xc, A, n, k, l⟩ := x
  obtain ⟨yr, yc, A', n', k', l'⟩ := y
  obtain ⟨h1, h2, h3, h4, h5⟩ := e1
  obtain ⟨h1', h2', _, _, h5'⟩ := e2
  dsimp only at h1 h2 h5 h1' h2' h5' sx sy gx gy
  subst h1 h2 h1' h2'
  rw [h5] at sx
  rw [h5'] at sy
  subst h5 h5'
  have hrc := mul64 h3 h4
  have lx := sx.len
  have ly := sy.len
  refine enter Try.func40 rfl rfl rfl ?_
  have hF := Fr.refl w
  repeat' (first | (refine TL.isOp ?_; first | (refine TL.isG ?_; first | refine TL.grun rfl rfl rfl ?_) | (refine TL.isBin ?_; refine TL.cmpG rfl rfl rfl rfl (fun hc => ?_) (fun hc => ?_) <;> (try (first | (exfalso; omega) | exact absurd rfl hc))) | (apply TL.ev; (case hd => rfl); (case h => (first | exact ev_simple rfl | (apply Ev.isLoad; first | exact ev_loadFr hF rfl (by refine ⟨?_, ?_⟩; (focus (repeat (first | exact InV.head | apply InV.tail))); rfl)) | exact ev_len rfl | exact ev_fieldAddr rfl))) | (refine TL.boxAFr hF (d := 2) (cs := [.int .i64 (r : Int), .int .i64 (c : Int), .slice A (r * c) k]) rfl rfl ?_; clear hF; intro w2 b2 hF) | (refine TL.boxAFr hF (d := 3) (cs := [.int .i64 (r : Int), .int .i64 (c : Int), .slice A' (r * c) k']) rfl rfl ?_; clear hF; intro w3 b3 hF)) | (refine T.is ?_; first | refine T.seq ?_ | refine T.region ?_ | refine T.block ?_ | refine T.cond_f rfl ?_ | refine T.skip ?_) | (refine G.is ?_; first | refine G.next ?_) | refine TL.nil ?_)
  refine T.loop (α := Nat) (fun i => [(2, .pointer (some ⟨b2, 0, none⟩)), (3, .pointer (some ⟨b3, 0, none⟩)), (5, .int .i64 (i : Int))]) (fun i w' => i ≤ r * c ∧ Fr w w' [⟨b3, 24, [.int .i64 (r : Int), .int .i64 (c : Int), .slice A' (r * c) k']⟩, ⟨b2, 24, [.int .i64 (r : Int), .int .i64 (c : Int), .slice A (r * c) k]⟩] []) (fun i => r * c - i) 0 (by repeat (first | exact Sub.nil _ | refine Sub.cons rfl ?_ | refine Sub.cons' rfl (int_congr (by omega)) ?_)) ⟨Nat.zero_le _, hF⟩ ?_
  clear hF
  rintro i w1 ⟨hi, hF⟩
  rcases Nat.lt_or_ge i (r * c) with hin | hin
  · have hc : 0 < c := Nat.pos_of_ne_zero fun e => by rw [e, Nat.mul_zero] at hin; omega
    have hq1 : i / c < r := (Nat.div_lt_iff_lt_mul hc).2 hin
    have hq2 := Nat.mod_lt i hc
    have gp := gx (i / c) (i % c) hq1 hq2
    have gq := gy (i / c) (i % c) hq1 hq2
    rw [← hF' _ _ hq1 hq2] at gq
    rw [Nat.mul_comm, Nat.div_add_mod] at gp gq
    have hp : l[i]? = some (l.getD i default) := by simp [List.getD, show i < l.length by omega]
    have hq : l'[i]? = some (l'.getD i default) := by simp [List.getD, show i < l'.length by omega]
    generalize l.getD i default = y at *
    generalize l'.getD i default = z at *
    generalize F (i / c) (i % c) = v at *
    clear hc hq1 hq2
    repeat' (first | (refine TL.isOp ?_; first | (refine TL.isCall ?_; refine TL.call rfl rfl ?_; first | (refine (alikeL _ y z (gp.1.ext hF.ext) (gq.1.ext hF.ext) (by omega) (by omega)).mono ?_; rintro _ wc ⟨rfl, hE⟩; replace hF := hF.exts hE; clear hE; refine Back.mk ?_)) | (refine TL.isBin ?_; refine TL.cmpG rfl rfl rfl rfl (fun hc => ?_) (fun hc => ?_) <;> (try (first | (exfalso; omega) | exact absurd rfl hc))) | (apply TL.ev; (case hd => rfl); (case h => (first | exact ev_simple rfl | (apply Ev.isBin; first | exact ev_arN rfl rfl rfl (by omega)) | (apply Ev.isLoad; first | exact ev_loadFr hF rfl (by refine ⟨?_, ?_⟩; (focus (repeat (first | exact InV.head | apply InV.tail))); rfl)) | exact ev_len rfl | exact ev_fieldAddr rfl)))) | (refine TF.is ?_; first | refine TF.nil ?_ | refine TF.e rfl ?_ | (refine TF.pick rfl ?_; first | (apply TFo.ev; (case hd => rfl); (case h => (intro wh hF; first | exact ev_simple rfl | (apply Ev.isLoad; first | exact ev_loadFr hF rfl (by refine ⟨?_, ?_⟩; (focus (repeat (first | exact InV.head | apply InV.tail))); rfl) | exact ev_loadM rfl (sx.ext hF.ext) hp | exact ev_loadM rfl (sy.ext hF.ext) hq) | exact ev_fieldAddr rfl | exact ev_indexM rfl rfl hin (sx.ext hF.ext).some | exact ev_indexM rfl rfl hin (sy.ext hF.ext).some))))) | (refine T.is ?_; first | refine T.seq ?_ | refine T.region ?_ | refine T.block ?_ | refine T.cond_t rfl ?_ | refine T.cond_f rfl ?_ | refine T.skip ?_ | (refine T.regionFr hF 6 12 (.s 0 (.s 1 (.s 2 (.s 3 (.s 4 (.s 5 (.s 6 (.s 7 (.s 8 (.s 9 (.e 10 (.s 11 .nil)))))))))))) mixed (by kernel_rfl) ?_; clear hF; intro wr hF)) | (refine G.is ?_; first | refine G.next ?_ | refine G.blockN ?_ | refine G.only ?_ | refine G.tree rfl (by first | exact hF | exact hF.weak (List.sublist_append_right _ _) (by repeat (first | exact allR | apply allT)) | exact hF.weak (by repeat (first | exact List.Sublist.refl _ | apply List.Sublist.cons)) (by repeat (first | exact allR | apply allT)) | exact hF.weak (by repeat (first | exact List.Sublist.refl _ | apply List.Sublist.cons)) (by repeat (first | exact allN | refine allH (by repeat (first | exact memH | apply memT)) ?_))) ?_) | refine TL.nil ?_)
    all_goals exact G.again (i + 1) (by repeat (first | exact Sub.nil _ | refine Sub.cons rfl ?_ | refine Sub.cons' rfl (int_congr (by omega)) ?_)) ⟨hin, hF⟩ (by omega)
  · obtain rfl : i = r * c := by omega
    repeat' (first | (refine TL.isOp ?_; first | (refine TL.isBin ?_; refine TL.cmpG rfl rfl rfl rfl (fun hc => ?_) (fun hc => ?_) <;> (try (first | (exfalso; omega) | exact absurd rfl hc))) | (apply TL.ev; (case hd => rfl); (case h => (first | exact ev_simple rfl | (apply Ev.isLoad; first | exact ev_loadFr hF rfl (by refine ⟨?_, ?_⟩; (focus (repeat (first | exact InV.head | apply InV.tail))); rfl)) | exact ev_len rfl | exact ev_fieldAddr rfl)))) | (refine T.is ?_; first | refine T.seq ?_ | refine T.region ?_ | refine T.cond_f rfl ?_ | refine T.exit ?_ | refine T.ret ?_) | (refine G.is ?_; first | refine G.next ?_ | refine G.blockE ?_ | refine G.thenE ?_) | refine TL.nil ?_)
    exact G.ret1 rfl rfl ⟨rfl, hF.ext⟩
end Go.Proofs.Ytlpheckjogphmaa

namespace Go.Proofs.Ytlpheckjogphmaa
open Go Go.Eng Go.Proofs Go.NatM Go.RowKit

theorem RetZ.more {w : World} {z : Int} {K K' : Nat} (hK : K ≤ K') {e : Ending} {w' : World} (h : RetZ w z K e w') : RetZ w z K' e w' := by
  obtain ⟨x, h1, h2, h3, h4⟩ := h
  exact ⟨x, h1, h2, h3, Nat.le_trans h4 hK⟩
set_option maxRecDepth 100000 in
set_option maxHeartbeats 8000000 in
theorem place_unfit (w : World) (x y : MV) (r c r' c' : Nat) (g : FuncId) (gx : Sound x r c) (gy : Sound y r' c') (hne : ¬ (r = r' ∧ c = c')) :
    Cl Try.prog 73 #[.agg (mvc x).toArray, .agg (mvc y).toArray, .func (.func g) #[] #[]] w (RetMF w 2) := by
  have h2 := sound_two gx gy
  obtain ⟨xr, xc, A, n, k, l⟩ := x
  obtain ⟨yr, yc, A2, n2, k2, l2⟩ := y
  obtain ⟨h1, h2', h3, h4, h5⟩ := gx
  obtain ⟨h1', h2'', h3', h4', h5'⟩ := gy
  dsimp only at h1 h2' h5 h1' h2'' h5'
  subst h1 h2' h5 h1' h2'' h5'
  refine enter Try.func73 rfl rfl rfl ?_
  have hF := Fr.refl w
  repeat' (first | (refine TL.isOp ?_; first | (refine TL.isG ?_; first | refine TL.grun rfl rfl rfl ?_ | refine TL.gskip rfl rfl rfl rfl ?_) | (refine TL.isCall ?_; refine TL.call rfl rfl ?_; first | (refine (check_ok _ _ _ _ _ hSn h2 (by omega)).mono ?_; rintro _ wc ⟨rfl, hE⟩; replace hF := hF.exts hE; clear hE hSn; refine Back.mk ?_)) | (refine TL.isBin ?_; refine TL.cmpG rfl rfl rfl rfl (fun hc => ?_) (fun hc => ?_) <;> (try (first | (exfalso; omega) | exact absurd rfl hc))) | (apply TL.ev; (case hd => rfl); (case h => (first | exact ev_simple rfl | (apply Ev.isLoad; first | exact ev_loadFr hF rfl (by refine ⟨?_, ?_⟩; (focus (repeat (first | exact InV.head | apply InV.tail))); rfl) | exact ev_loadAFr hF rfl (by refine ⟨?_, ?_⟩; (focus (repeat (first | exact InV.head | apply InV.tail))); rfl)) | exact ev_fieldAddr rfl | exact ev_buildX rfl rfl))) | (refine TL.storeAFr hF rfl rfl rfl rfl (by refine ⟨?_, ?_⟩; (focus (repeat (first | apply SetV.head | apply SetV.tail))); rfl) rfl ?_; clear hF; intro ws hF) | (refine TL.boxAFr hF (d := 3) (cs := [.int .i64 (r : Int), .int .i64 (c : Int), .slice A (r * c) k]) rfl rfl ?_; clear hF; intro w3 b3 hF) | (refine TL.boxAFr hF (d := 4) (cs := [.int .i64 (r' : Int), .int .i64 (c' : Int), .slice A2 (r' * c') k2]) rfl rfl ?_; clear hF; intro w4 b4 hF) | (refine TL.allocFr hF (d := 6) rfl rfl ?_; clear hF; intro w6 b6 hF) | (refine TL.buildX2 (f := mvc) (u := ⟨r, c, A, r * c, k, l⟩) (v := ⟨r', c', A2, r' * c', k2, l2⟩) rfl rfl rfl rfl rfl rfl rfl rfl rfl rfl (fun wn bn ebn hSn hE hzn => ?_); replace hF := hF.exts hE; clear hE hzn ebn) | (refine TL.boxFr hF rfl rfl ?_; clear hF; intro wb bb hF)) | (refine T.is ?_; first | refine T.seq ?_ | refine T.region ?_ | refine T.cond_t rfl ?_ | refine T.cond_f rfl ?_ | refine T.ret ?_ | refine T.skip ?_) | (refine G.is ?_; first | refine G.next ?_ | refine G.thenR ?_) | refine TL.nil ?_)
  all_goals first | exact G.retC2 rfl rfl rfl (held_agg (hF.var (by repeat (first | exact InV.head | apply InV.tail))) rfl) ⟨rfl, hF.ext⟩ | (exfalso; omega)
theorem madd_unfit (w : World) (x y : MV) (r c r' c' : Nat) (gx : Sound x r c) (gy : Sound y r' c') (hne : ¬ (r = r' ∧ c = c')) :
    Cl Try.prog 41 #[.agg (mvc x).toArray, .agg (mvc y).toArray] w (RetMF w 2) := by
  have hpl := fun w => place_unfit w x y r c r' c' 33 gx gy hne
  clear gx gy hne
  obtain ⟨xr, xc, A, n, k, l⟩ := x
  obtain ⟨yr, yc, A2, n2, k2, l2⟩ := y
  refine enter Try.func41 rfl rfl rfl ?_
  have hF := Fr.refl w
  repeat' (first | (refine TL.isOp ?_; first | (refine TL.isG ?_; first | refine TL.grun rfl rfl rfl ?_ | refine TL.gskip rfl rfl rfl rfl ?_ | refine TL.gskipU rfl rfl rfl ?_) | (refine TL.isCall ?_; refine TL.call rfl rfl ?_; first | (refine (hpl _).mono ?_; rintro _ wc ⟨rfl, hE⟩; replace hF := hF.exts hE; clear hE; refine Back.mk ?_)) | (refine TL.isBin ?_; refine TL.cmpG rfl rfl rfl rfl (fun hc => ?_) (fun hc => ?_) <;> (try (first | (exfalso; omega) | exact absurd rfl hc))) | (apply TL.ev; (case hd => rfl); (case h => (first | exact ev_simple rfl | (apply Ev.isBin; first | exact ev_arN rfl rfl rfl (by omega) | exact ev_arI rfl rfl rfl (by omega) | exact ev_eqlB (r := true) rfl rfl rfl | exact ev_eqlB (r := false) rfl rfl rfl | exact ev_neqB (r := true) rfl rfl rfl | exact ev_neqB (r := false) rfl rfl rfl) | (apply Ev.isLoad; first | exact ev_loadFr hF rfl (by refine ⟨?_, ?_⟩; (focus (repeat (first | exact InV.head | apply InV.tail))); rfl) | exact ev_loadAFr hF rfl (by refine ⟨?_, ?_⟩; (focus (repeat (first | exact InV.head | apply InV.tail))); rfl)) | exact ev_len rfl | exact ev_fieldAddr rfl | exact ev_field rfl rfl | exact ev_fieldA rfl rfl | exact ev_buildX rfl rfl | exact ev_makeFunc rfl | exact ev_nilCheck rfl | exact ev_neg rfl (by omega) | exact ev_cap rfl))) | (refine TL.storeAFr hF rfl rfl rfl rfl (by refine ⟨?_, ?_⟩; (focus (repeat (first | apply SetV.head | apply SetV.tail))); rfl) rfl ?_; clear hF; intro ws hF) | (refine TL.storeFr hF rfl rfl rfl rfl (by refine ⟨?_, ?_⟩; (focus (repeat (first | apply SetV.head | apply SetV.tail))); rfl) rfl ?_; clear hF; intro ws hF) | (refine TL.boxAFr hF (d := 2) (cs := [.int .i64 xr, .int .i64 xc, .slice A n k]) rfl rfl ?_; clear hF; intro w2 b2 hF) | (refine TL.boxAFr hF (d := 3) (cs := [.int .i64 yr, .int .i64 yc, .slice A2 n2 k2]) rfl rfl ?_; clear hF; intro w3 b3 hF) | (refine TL.allocFr hF (d := 4) rfl rfl ?_; clear hF; intro w4 b4 hF) | (refine TL.boxAFr hF rfl rfl ?_; clear hF; intro wb bb hF) | (refine TL.boxFr hF rfl rfl ?_; clear hF; intro wb bb hF) | (refine TL.allocFr hF rfl rfl ?_; clear hF; intro wa ba hF)) | (refine T.is ?_; first | refine T.seq ?_ | refine T.region ?_ | refine T.block ?_ | refine T.cond_t rfl ?_ | refine T.cond_f rfl ?_ | refine T.exit ?_ | refine T.ret ?_ | refine T.skip ?_ | refine T.regionQ mixed (by kernel_rfl) ?_) | (refine G.is ?_; first | refine G.next ?_ | refine G.blockN ?_ | refine G.blockE ?_ | refine G.blockE' rfl ?_ | refine G.blockR ?_ | refine G.thenE ?_ | refine G.thenR ?_ | refine G.only ?_) | refine TL.nil ?_ | (refine TL.nilFr hF ?_; clear hF; intro wq hF))
  exact G.retC2 rfl rfl rfl (held_agg (hF.var (by repeat (first | exact InV.head | apply InV.tail))) rfl) ⟨rfl, hF.ext⟩
end Go.Proofs.Ytlpheckjogphmaa

set_option linter.unusedSectionVars false
namespace Go.Eng
open Go Go.Proofs Go.NatM Go.RowKit Go.Proofs.Ytlpheckjogphmaa
theorem inrc_len {r c : Nat} {ks : List (Int × Int)} (hn : ks.Nodup) (h : ∀ k ∈ ks, (0 ≤ k.1 ∧ k.1 < (r : Int)) ∧ (0 ≤ k.2 ∧ k.2 < (c : Int))) : ks.length ≤ r * c := by
  have h1 := nodup_len_le (b := ((List.range r).map fun i => (List.range c).map fun j => (((i : Nat) : Int), ((j : Nat) : Int))).flatten) hn fun k hk => by
    obtain ⟨a, b⟩ := k
    have := h _ hk
    dsimp only at this
    refine List.mem_flatten.2 ⟨_, List.mem_map.2 ⟨a.toNat, List.mem_range.2 (by omega), rfl⟩, List.mem_map.2 ⟨b.toNat, List.mem_range.2 (by omega), ?_⟩⟩
    have e1 : ((a.toNat : Nat) : Int) = a := by omega
    have e2 : ((b.toNat : Nat) : Int) = b := by omega
    rw [e1, e2]
  rwa [cross_len (fun (i j : Nat) => ((i : Int), (j : Int))), List.length_range, List.length_range] at h1
theorem InRC.prod {r n c : Nat} {A B : ZF} (hA : InRC r n A) (hB : InRC n c B) : InRC r c (prodF n A B) := fun k hk => by
  obtain ⟨y, _, h⟩ := psum_ne hk
  have h1 : A (k.1, (y : Int)) ≠ 0 := fun e => h (by rw [e, Int.zero_mul])
  have h2 : B ((y : Int), k.2) ≠ 0 := fun e => h (by rw [e, Int.mul_zero])
  exact ⟨(hA _ h1).1, (hB _ h2).2⟩
theorem InRC.add {r c : Nat} {A B : ZF} (hA : InRC r c A) (hB : InRC r c B) : InRC r c (addF A B) := fun k hk => by
  by_cases h : A k = 0
  · exact hB k fun e => hk (by unfold addF; rw [h, e]; rfl)
  · exact hA k h
theorem InRC.flip {r c : Nat} {A : ZF} (hA : InRC r c A) : InRC c r (flipF A) := fun k hk => ⟨(hA _ hk).2, (hA _ hk).1⟩
/-- a small function that cannot be held has an entry too long -/
theorem refw_big {r c : Nat} {Z : ZF} (hi : InRC r c Z) (hrc : r * c ≤ 4096) (h : Refw Z) : ∃ k, bigZ (Z k) := by
  rcases h with h | ⟨l', hz, hn, hv, hl⟩
  · exact h
  · have := inrc_len hn fun k hk => by
      obtain ⟨p, hp, rfl⟩ := List.mem_map.1 hk
      exact hi p.1 (by rw [← hv p hp]; exact hz p hp)
    rw [List.length_map] at this
    omega
theorem refu_big {r c : Nat} {Z : ZF} (hi : InRC r c Z) (hrc : r * c ≤ 4096) (h : Refu Z) : ∃ k, bigZ (Z k) := by
  rcases h with h | ⟨l', hz, hn, hv, hl⟩
  · exact h
  · have := inrc_len hn fun k hk => hi k (by rw [← hv]; exact (hz.keys k).1 hk)
    rw [List.length_map] at this
    omega
end Go.Eng
namespace Go.Proofs.Ytlpheckjogphmaa
open Go Go.Eng Go.Proofs Go.NatM Go.RowKit
/-- a new grid -/
def RetGn (w : World) (r c : Nat) (Z : ZF) (e : Ending) (w' : World) : Prop := ∃ g m N, e = .returned (.tuple #[.pointer (some ⟨g, 0, none⟩), .int .i64 0]) ∧ Ext w w' ∧ w.heap.size ≤ g ∧ w.heap.size ≤ m ∧ GZ w'.heap g m r c Z N ∧ N ≤ 4096
/-- a small product is refused where an entry is too long, and there alone -/
theorem mulR (w : World) (g m g2 m2 r n c N N2 : Nat) (Z Z2 : ZF) (hG : GZ w.heap g m r n Z N) (hG2 : GZ w.heap g2 m2 n c Z2 N2) (hi : InRC r n Z) (hi2 : InRC n c Z2) (hrc : r * c ≤ 4096) (hl : N ≤ 4096) (hl2 : N2 ≤ 4096) :
    Cl Try.prog 22 #[.pointer (some ⟨g, 0, none⟩), .pointer (some ⟨g2, 0, none⟩)] w (fun e w' => ((∀ k, ¬ bigZ (prodF n Z Z2 k)) ∧ RetGn w r c (prodF n Z Z2) e w') ∨ ((∃ k, bigZ (prodF n Z Z2 k)) ∧ RetLg w 5 e w')) := by
  obtain ⟨l, hG, hz, rfl, hv⟩ := hG
  obtain ⟨l2, hG2, hz2, rfl, hv2⟩ := hG2
  have hn := (Gr.nodup hG)
  have ep : mulZ l l2 = prodF n Z Z2 := funext fun k => by
    rw [mul_prod k hn fun p hp => (hi p.1 (by rw [← hv]; exact (hz.keys _).1 (List.mem_map_of_mem hp))).2]
    exact prod_congr hv hv2 k
  refine (gmul_ok w g m g2 m2 r n c l l2 hG hG2 hl hl2).mono ?_
  rw [ep]
  rintro e w' (⟨g3, m3, l', rfl, hE, hg3, hm3, hG3, hz3, hl3, hv3, hb3⟩ | ⟨hr, h⟩)
  · exact .inl ⟨hb3, g3, m3, _, rfl, hE, hg3, hm3, ⟨l', hG3, hz3, rfl, hv3⟩, hl3⟩
  · exact .inr ⟨refw_big (hi.prod hi2) hrc hr, h⟩
theorem addR (w : World) (g m g2 m2 r c N N2 : Nat) (Z Z2 : ZF) (hG : GZ w.heap g m r c Z N) (hG2 : GZ w.heap g2 m2 r c Z2 N2) (hi : InRC r c Z) (hi2 : InRC r c Z2) (hrc : r * c ≤ 4096) (hl : N ≤ 4096) (hl2 : N2 ≤ 4096) :
    Cl Try.prog 25 #[.pointer (some ⟨g, 0, none⟩), .pointer (some ⟨g2, 0, none⟩)] w (fun e w' => ((∀ k, ¬ bigZ (addF Z Z2 k)) ∧ RetGn w r c (addF Z Z2) e w') ∨ ((∃ k, bigZ (addF Z Z2 k)) ∧ RetLg w 5 e w')) := by
  obtain ⟨l, hG, hz, rfl, hv⟩ := hG
  obtain ⟨l2, hG2, hz2, rfl, hv2⟩ := hG2
  have ep : (fun k => zv l k + zv l2 k) = addF Z Z2 := funext fun k => by rw [hv, hv2]; rfl
  refine (gadd_ok w g m g2 m2 r c l l2 hG hG2 hl hl2 hz).mono ?_
  rw [ep]
  rintro e w' (⟨g3, m3, l', rfl, hE, hg3, hm3, hG3, hz3, hl3, hv3, hb3⟩ | ⟨hr, h⟩)
  · exact .inl ⟨hb3, g3, m3, _, rfl, hE, hg3, hm3, ⟨l', hG3, hz3, rfl, hv3⟩, hl3⟩
  · exact .inr ⟨refu_big (hi.add hi2) hrc hr, h⟩
theorem gmulU (w : World) (g m g2 m2 r n n' c N N2 : Nat) (Z Z2 : ZF) (hG : GZ w.heap g m r n Z N) (hG2 : GZ w.heap g2 m2 n' c Z2 N2) (hne : n ≠ n') :
    Cl Try.prog 22 #[.pointer (some ⟨g, 0, none⟩), .pointer (some ⟨g2, 0, none⟩)] w (RetLg w 2) := by
  obtain ⟨l, hG, _⟩ := hG
  obtain ⟨l2, hG2, _⟩ := hG2
  have hF := Fr.mt (Fr.mt (Fr.refS w fun _ => False) (dpGr g m r n l) (by unfold dpGr; exact hG)) (dpGr g2 m2 n' c l2) (by unfold dpGr; exact hG2)
  clear hG hG2
  refine enter Try.func22 rfl rfl rfl ?_
  repeat' (first | (refine TL.isOp ?_; first | (refine TL.isG ?_; first | refine TL.grun rfl rfl rfl ?_) | (refine TL.isBin ?_; refine TL.cmpG rfl rfl rfl rfl (fun hc => ?_) (fun hc => ?_) <;> (try (first | (exfalso; omega) | exact absurd rfl hc))) | (apply TL.ev; (case hd => rfl); (case h => (first | exact ev_simple rfl | (apply Ev.isBin; first | exact ev_eqlP rfl rfl rfl) | (apply Ev.isLoad; first | exact ev_loadV rfl (hF.grOf (g := g) (l := l) (by repeat (first | exact memH | apply memT))).cells rfl | exact ev_loadV rfl (hF.grOf (g := g2) (l := l2) (by repeat (first | exact memH | apply memT))).cells rfl) | exact ev_fieldAddr rfl | exact ev_nilCheck rfl)))) | (refine T.is ?_; first | refine T.seq ?_ | refine T.region ?_ | refine T.block ?_ | refine T.cond_t rfl ?_ | refine T.cond_f rfl ?_ | refine T.ret ?_ | refine T.regionQ mixed (by kernel_rfl) ?_) | (refine G.is ?_; first | refine G.next ?_ | refine G.blockR ?_ | refine G.thenR ?_) | refine TL.nil ?_ | (refine TL.nilFr hF ?_; clear hF; intro wq hF))
  all_goals exact G.ret2 rfl rfl rfl ⟨rfl, hF.ext⟩
theorem gaddU (w : World) (g m g2 m2 r c r' c' N N2 : Nat) (Z Z2 : ZF) (hG : GZ w.heap g m r c Z N) (hG2 : GZ w.heap g2 m2 r' c' Z2 N2) (hne : ¬ (r = r' ∧ c = c')) :
    Cl Try.prog 25 #[.pointer (some ⟨g, 0, none⟩), .pointer (some ⟨g2, 0, none⟩)] w (RetLg w 2) := by
  obtain ⟨l, hG, _⟩ := hG
  obtain ⟨l2, hG2, _⟩ := hG2
  have hF := Fr.mt (Fr.mt (Fr.refS w fun _ => False) (dpGr g m r c l) (by unfold dpGr; exact hG)) (dpGr g2 m2 r' c' l2) (by unfold dpGr; exact hG2)
  clear hG hG2
  refine enter Try.func25 rfl rfl rfl ?_
  by_cases h1 : r = r'
  · have h2 : c ≠ c' := fun e => hne ⟨h1, e⟩
    clear hne
    repeat' (first | (refine TL.isOp ?_; first | (refine TL.isG ?_; first | refine TL.grun rfl rfl rfl ?_) | (refine TL.isBin ?_; refine TL.cmpG rfl rfl rfl rfl (fun hc => ?_) (fun hc => ?_) <;> (try (first | (exfalso; omega) | exact absurd rfl hc))) | (apply TL.ev; (case hd => rfl); (case h => (first | exact ev_simple rfl | (apply Ev.isBin; first | exact ev_eqlP rfl rfl rfl) | (apply Ev.isLoad; first | exact ev_loadV rfl (hF.grOf (g := g) (l := l) (by repeat (first | exact memH | apply memT))).cells rfl | exact ev_loadV rfl (hF.grOf (g := g2) (l := l2) (by repeat (first | exact memH | apply memT))).cells rfl) | exact ev_fieldAddr rfl | exact ev_nilCheck rfl)))) | (refine T.is ?_; first | refine T.seq ?_ | refine T.region ?_ | refine T.block ?_ | refine T.cond_t rfl ?_ | refine T.cond_f rfl ?_ | refine T.ret ?_ | refine T.regionQ mixed (by kernel_rfl) ?_) | (refine G.is ?_; first | refine G.next ?_ | refine G.blockR ?_ | refine G.thenR ?_) | refine TL.nil ?_ | (refine TL.nilFr hF ?_; clear hF; intro wq hF))
    all_goals exact G.ret2 rfl rfl rfl ⟨rfl, hF.ext⟩
  · repeat' (first | (refine TL.isOp ?_; first | (refine TL.isG ?_; first | refine TL.grun rfl rfl rfl ?_ | refine TL.gskip rfl rfl rfl rfl ?_) | (refine TL.isBin ?_; refine TL.cmpG rfl rfl rfl rfl (fun hc => ?_) (fun hc => ?_) <;> (try (first | (exfalso; omega) | exact absurd rfl hc))) | (apply TL.ev; (case hd => rfl); (case h => (first | exact ev_simple rfl | (apply Ev.isBin; first | exact ev_eqlP rfl rfl rfl) | (apply Ev.isLoad; first | exact ev_loadV rfl (hF.grOf (g := g) (l := l) (by repeat (first | exact memH | apply memT))).cells rfl | exact ev_loadV rfl (hF.grOf (g := g2) (l := l2) (by repeat (first | exact memH | apply memT))).cells rfl) | exact ev_fieldAddr rfl | exact ev_nilCheck rfl)))) | (refine T.is ?_; first | refine T.seq ?_ | refine T.region ?_ | refine T.block ?_ | refine T.cond_t rfl ?_ | refine T.cond_f rfl ?_ | refine T.ret ?_ | refine T.regionQ mixed (by kernel_rfl) ?_) | (refine G.is ?_; first | refine G.next ?_ | refine G.blockR ?_ | refine G.thenR ?_) | refine TL.nil ?_ | (refine TL.nilFr hF ?_; clear hF; intro wq hF))
    all_goals exact G.ret2 rfl rfl rfl ⟨rfl, hF.ext⟩
end Go.Proofs.Ytlpheckjogphmaa

set_option linter.unusedSectionVars false
namespace Go.Proofs.Ytlpheckjogphmaa
open Go Go.Eng Go.Proofs Go.NatM Go.RowKit
set_option maxRecDepth 100000 in
set_option maxHeartbeats 16000000 in
theorem ring_off (w : World) (x y : MV) (dx cx dy cy : Int) (lx ly : Bool)
    (hOx : ∀ w1, Ext w w1 → Cl Try.prog 9 #[.agg (mvc x).toArray] w1 (fun e w' => ∃ p : Option Addr, e = .returned (.tuple #[.pointer p, .int .i64 dx]) ∧ Ext w1 w'))
    (hOy : ∀ w1, Ext w w1 → Cl Try.prog 9 #[.agg (mvc y).toArray] w1 (fun e w' => ∃ p : Option Addr, e = .returned (.tuple #[.pointer p, .int .i64 dy]) ∧ Ext w1 w'))
    (hCx : ∀ w1, Cl Try.prog 11 #[.agg (mvc x).toArray] w1 (fun e w' => e = .returned (.int .i64 cx) ∧ Ext w1 w'))
    (hCy : ∀ w1, Cl Try.prog 11 #[.agg (mvc y).toArray] w1 (fun e w' => e = .returned (.int .i64 cy) ∧ Ext w1 w'))
    (hLx : cx = 0 → ∀ w1, Ext w w1 → Cl Try.prog 12 #[.agg (mvc x).toArray] w1 (fun e w' => e = .returned (.bool lx) ∧ Ext w1 w'))
    (hLy : cy = 0 → ∀ w1, Ext w w1 → Cl Try.prog 12 #[.agg (mvc y).toArray] w1 (fun e w' => e = .returned (.bool ly) ∧ Ext w1 w'))
    (hx3 : (dx = 1 ∧ cx = 1) ∨ (dx = 5 ∧ cx = 0 ∧ lx = true) ∨ (dx = 0 ∧ cx = 0 ∧ lx = false))
    (hy3 : (dy = 1 ∧ cy = 1) ∨ (dy = 5 ∧ cy = 0 ∧ ly = true) ∨ (dy = 0 ∧ cy = 0 ∧ ly = false)) (hd : dx ≠ 0 ∨ dy ≠ 0) :
    Cl Try.prog 7 #[.agg (mvc x).toArray, .agg (mvc y).toArray] w (YesM w) := by
  obtain ⟨xr, xc, xA, xn, xk, xl⟩ := x
  obtain ⟨yr, yc, yA, yn, yk, yl⟩ := y
  rcases hx3 with ⟨rfl, rfl⟩ | ⟨rfl, rfl, rfl⟩ | ⟨rfl, rfl, rfl⟩ <;> rcases hy3 with ⟨rfl, rfl⟩ | ⟨rfl, rfl, rfl⟩ | ⟨rfl, rfl, rfl⟩ <;> first
    | exact absurd hd (by decide)
    | (refine enter Try.func7 rfl rfl rfl ?_
       have hF := Fr.refl w
       repeat' (first | (refine TL.isOp ?_; first | (refine TL.isG ?_; first | refine TL.grun rfl rfl rfl ?_ | refine TL.gskip rfl rfl rfl rfl ?_ | refine TL.gskipU rfl rfl rfl ?_) | (refine TL.isCall ?_; refine TL.call rfl rfl ?_; first | (refine (awake_ok _).mono ?_; rintro _ wy ⟨rfl, hE⟩; replace hF := hF.exts hE; clear hE; refine Back.mk ?_) | (refine (hOx _ hF.ext).mono ?_; rintro _ wy ⟨pg, rfl, hE⟩; replace hF := hF.exts hE; clear hE; refine Back.mk ?_) | (refine (hOy _ hF.ext).mono ?_; rintro _ wy ⟨ph, rfl, hE⟩; replace hF := hF.exts hE; clear hE; refine Back.mk ?_) | (refine (hCx _).mono ?_; rintro _ wy ⟨rfl, hE⟩; replace hF := hF.exts hE; clear hE; refine Back.mk ?_) | (refine (hCy _).mono ?_; rintro _ wy ⟨rfl, hE⟩; replace hF := hF.exts hE; clear hE; refine Back.mk ?_) | (refine (hLx rfl _ hF.ext).mono ?_; rintro _ wy ⟨rfl, hE⟩; replace hF := hF.exts hE; clear hE; refine Back.mk ?_) | (refine (hLy rfl _ hF.ext).mono ?_; rintro _ wy ⟨rfl, hE⟩; replace hF := hF.exts hE; clear hE; refine Back.mk ?_)) | (refine TL.isBin ?_; refine TL.cmpG rfl rfl rfl rfl (fun hc => ?_) (fun hc => ?_) <;> (try (first | (exfalso; omega) | exact absurd rfl hc))) | (apply TL.ev; (case hd => rfl); (case h => (first | exact ev_simple rfl | (apply Ev.isBin; first | exact ev_eqlB (r := true) rfl rfl rfl) | (apply Ev.isLoad; first | exact ev_loadAFr hF rfl (by refine ⟨?_, ?_⟩; (focus (repeat (first | exact InV.head | apply InV.tail))); rfl))))) | (refine TL.boxAFr hF (d := 2) (cs := [.int .i64 xr, .int .i64 xc, .slice xA xn xk]) rfl rfl ?_; clear hF; intro w2 b2 hF) | (refine TL.boxAFr hF (d := 3) (cs := [.int .i64 yr, .int .i64 yc, .slice yA yn yk]) rfl rfl ?_; clear hF; intro w3 b3 hF)) | (refine T.is ?_; first | refine T.seq ?_ | refine T.region ?_ | refine T.cond_t rfl ?_ | refine T.cond_f rfl ?_ | refine T.ret ?_ | refine T.skip ?_) | (refine G.is ?_; first | refine G.next ?_ | refine G.thenR ?_) | refine TL.nil ?_)
       all_goals exact G.ret1 rfl rfl ⟨rfl, hF.ext⟩)
end Go.Proofs.Ytlpheckjogphmaa

set_option linter.unusedSectionVars false
namespace Go.Eng
open Go Go.Proofs Go.NatM Go.RowKit Go.Proofs.Ytlpheckjogphmaa
theorem rows_at (F : Nat → Nat → Int) {r c i j : Nat} (hi : i < r) (hj : j < c) : rowsF F c r 0 ((i : Int), (j : Int)) = F i j := by
  unfold rowsF
  dsimp only
  rw [if_pos (by omega)]; rfl
theorem rowsF_in (F : Nat → Nat → Int) (r c : Nat) : InRC r c (rowsF F c r 0) := fun k hk => by
  unfold rowsF at hk
  by_cases h : (0 ≤ k.1 ∧ 0 ≤ k.2 ∧ k.2 < (c : Int)) ∧ (k.1 < (r : Int) ∨ (k.1 = (r : Int) ∧ k.2 < ((0 : Nat) : Int)))
  · omega
  · rw [if_neg h] at hk; exact absurd rfl hk
theorem bigs_iff {r c : Nat} {Z : ZF} {F : Nat → Nat → Int} (hi : InRC r c Z) (e : ∀ i j, i < r → j < c → Z ((i : Int), (j : Int)) = F i j) : (∃ k, bigZ (Z k)) ↔ ∃ i j, i < r ∧ j < c ∧ bigZ (F i j) := by
  constructor
  · rintro ⟨⟨a, b⟩, h⟩
    have h0 : Z (a, b) ≠ 0 := fun e => bigZ_zero (by rw [← e]; exact h)
    have hr := hi _ h0
    dsimp only at hr
    have e1 : ((a.toNat : Nat) : Int) = a := by omega
    have e2 : ((b.toNat : Nat) : Int) = b := by omega
    refine ⟨a.toNat, b.toNat, by omega, by omega, ?_⟩
    rw [← e _ _ (by omega) (by omega), e1, e2]; exact h
  · rintro ⟨i, j, h1, h2, h⟩
    exact ⟨_, by rw [e i j h1 h2]; exact h⟩
theorem lm_bigs {H : Array Obj} {m : MV} {r c K : Nat} {F : Nat → Nat → Int} (h : LM H m r c F K) : (∃ y ∈ m.l, big y) ↔ ∃ i j, i < r ∧ j < c ∧ bigZ (F i j) := by
  have hl := h.s.len
  have hn := h.sh.n
  constructor
  · rintro ⟨y, hy, hb⟩
    obtain ⟨q, hq⟩ := List.mem_iff_getElem?.1 hy
    have hqn : q < r * c := by have := (List.getElem?_eq_some_iff.1 hq).1; omega
    have hc : 0 < c := Nat.pos_of_ne_zero fun e => by rw [e, Nat.mul_zero] at hqn; omega
    have h1 : q / c < r := (Nat.div_lt_iff_lt_mul hc).2 hqn
    have h2 := Nat.mod_lt q hc
    have h3 := (h.g _ _ h1 h2).1.val
    have e : q / c * c + q % c = q := by rw [Nat.mul_comm]; exact Nat.div_add_mod q c
    rw [e] at h3
    have e2 : m.l.getD q default = y := by simp [List.getD, hq]
    rw [e2] at h3
    exact ⟨_, _, h1, h2, by rw [← h3]; exact (big_iff y).1 hb⟩
  · rintro ⟨i, j, h1, h2, hb⟩
    have hlt := place_lt h1 h2
    have e : m.l[i * c + j]? = some (m.l.getD (i * c + j) default) := by simp [List.getD, show i * c + j < m.l.length by omega]
    refine ⟨_, List.mem_of_getElem? e, (big_iff _).2 ?_⟩
    rw [(h.g i j h1 h2).1.val]; exact hb
theorem prod_at (F G : Nat → Nat → Int) {r n c i j : Nat} (hi : i < r) (hj : j < c) : prodF n (rowsF F n r 0) (rowsF G c n 0) ((i : Int), (j : Int)) = psum (fun q => F i q * G q j) n := by
  unfold prodF
  exact psum_congr fun q hq => by dsimp only; rw [rows_at F hi hq, rows_at G hq hj]
theorem add_at (F G : Nat → Nat → Int) {r c i j : Nat} (hi : i < r) (hj : j < c) : addF (rowsF F c r 0) (rowsF G c r 0) ((i : Int), (j : Int)) = F i j + G i j := by
  unfold addF
  rw [rows_at F hi hj, rows_at G hi hj]
theorem flip_at (F : Nat → Nat → Int) {r c i j : Nat} (hi : i < r) (hj : j < c) : flipF (rowsF F c r 0) ((j : Int), (i : Int)) = F i j := rows_at F hi hj
theorem gz_n {H : Array Obj} {g m r c N : Nat} {Z : ZF} (h : GZ H g m r c Z N) (hi : InRC r c Z) (hrc : r * c ≤ 4096) : N ≤ 4096 := by
  obtain ⟨l, hG, hz, rfl, hv⟩ := h
  have := inrc_len (Gr.nodup hG) fun k hk => hi k (by rw [← hv]; exact (hz.keys k).1 hk)
  rw [List.length_map] at this
  omega
theorem lm_mz (H : Array Obj) (F : Nat → Nat → Int) (K : Nat) : LM H ⟨0, 0, none, 0, 0, []⟩ 0 0 F K := lm_zero H F K
end Go.Eng
namespace Go.Proofs.Ytlpheckjogphmaa
open Go Go.Eng Go.Proofs Go.NatM Go.RowKit
theorem longMZ (w : World) : Cl Try.prog 12 #[.agg #[.int .i64 0, .int .i64 0, .slice none 0 0]] w (fun e w' => e = .returned (.bool false) ∧ Ext w w') :=
  longL w ⟨0, 0, none, 0, 0, []⟩ 0 (lm_mz w.heap (fun _ _ => 0) 0).s (fun y hy => by cases hy) (by omega) (by show 0 ≤ 1048576; omega) false ⟨fun h => (by cases h), fun ⟨y, hy, _⟩ => (by cases hy)⟩
theorem matsMZ (w : World) : Cl Try.prog 40 #[.agg #[.int .i64 0, .int .i64 0, .slice none 0 0], .agg #[.int .i64 0, .int .i64 0, .slice none 0 0]] w (YesM w) :=
  matsT w ⟨0, 0, none, 0, 0, []⟩ ⟨0, 0, none, 0, 0, []⟩ 0 0 0 0 _ _ (lm_mz w.heap (fun _ _ => 0) 0) (lm_mz w.heap (fun _ _ => 0) 0) (fun _ _ _ _ => rfl) (by omega) (by omega)
/-- long of a matrix that reads F -/
theorem longLM (w : World) (m : MV) (r c K : Nat) (F : Nat → Nat → Int) (h : LM w.heap m r c F K) (hK : K ≤ 1099511627776) (b : Bool) (hb : b = true ↔ ∃ i j, i < r ∧ j < c ∧ bigZ (F i j)) :
    Cl Try.prog 12 #[.agg (mvc m).toArray] w (fun e w' => e = .returned (.bool b) ∧ Ext w w') := by
  have hn := h.sh.n
  have hrc := mul64 h.sh.r64 h.sh.c64
  have hl := h.s.len
  refine longL w m K h.s (fun y hy => ?_) hK (by omega) b (hb.trans (lm_bigs h).symm)
  obtain ⟨q, hq⟩ := List.mem_iff_getElem?.1 hy
  have hqn : q < r * c := by have := (List.getElem?_eq_some_iff.1 hq).1; omega
  have hc : 0 < c := Nat.pos_of_ne_zero fun e => by rw [e, Nat.mul_zero] at hqn; omega
  have h3 := h.g _ _ ((Nat.div_lt_iff_lt_mul hc).2 hqn) (Nat.mod_lt q hc)
  have e : q / c * c + q % c = q := by rw [Nat.mul_comm]; exact Nat.div_add_mod q c
  rw [e] at h3
  have e2 : m.l.getD q default = y := by simp [List.getD, hq]
  rw [e2] at h3
  exact ⟨h3.1.g, h3.2⟩
end Go.Proofs.Ytlpheckjogphmaa
