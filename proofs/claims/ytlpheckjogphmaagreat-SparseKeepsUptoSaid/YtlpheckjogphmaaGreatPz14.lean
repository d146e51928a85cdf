/- Layer 10, the law SparseKeeps at matrices without columns (printed by genkeeps10.py). Layer 10: the law SparseKeeps. An argument as the engine has it: one integer. -/
import Derived.Test.YtlpheckjogphmaaGreatPz12
import Derived.Test.YtlpheckjogphmaaGreatPz13
import Derived.Test.YtlpheckjogphmaaGreatPz7
import Derived.Test.YtlpheckjogphmaaGreatPz5
set_option maxHeartbeats 64000000
set_option linter.unusedVariables false
set_option linter.unusedSimpArgs false
set_option linter.unusedSectionVars false
namespace Go.Proofs.YtlpheckjogphmaaGreat
open Go Go.Eng Go.Proofs Go.NatM Go.RowKit
set_option maxRecDepth 100000 in
theorem keeps_c0 (w : World) (x : MV) (r c : Nat) (gx : GM w.heap x r c 1048576) (hb : ∀ y ∈ x.l, ¬ big y) (v : IV) (gv : GI w.heap v) (hv : v.m.n ≤ 1048576) (hrc0 : 0 < r ∧ c = 0) :
    Cl Tryz.prog 3 #[.agg (mvc x).toArray, ivA v] w (YesM w) := by
  have hr := gx.sh.r64
  have hcc := gx.sh.c64
  have hrc := mul64 hr hcc
  have h2 := fun w1 (hE : Ext w w1) => mleast_ok w1 x r c 1048576 (gx.ext hE) (by omega)
  have h3 : ∀ i j, i < r → j < c → ¬ bigZ (ent x c i j) := gm_small gx hb
  have h4 := fun w1 (m : MV) (h : LM w1.heap m r c (ent x c) 1048576) => longLM w1 m r c 1048576 (ent x c) h (by omega) false ⟨fun h => (by cases h), fun ⟨i, j, hi, hj, h⟩ => absurd h (h3 i j hi hj)⟩
  have er := gx.sh.er
  have ec := gx.sh.ec
  have en := gx.sh.n
  have hsx := gx.s
  have hgx := gx.g
  obtain ⟨xr, xc, xA, xn, xk, xl⟩ := x
  dsimp only at er ec en hsx hgx hb
  subst er ec en
  have hlx := hsx.len
  have h1 := fun w1 (k lo : Nat) (A : Option Addr) (l : List IV) (hc : CopL xl (r * c) l) hS hO => cop_of w1 (k := k) (lo := lo) (A := A) (l := l) hc gx hb hS hO
  obtain ⟨F, hFx⟩ : ∃ F, ent ⟨(r : Int), (c : Int), xA, r * c, xk, xl⟩ c = F := ⟨_, rfl⟩
  simp only [hFx] at h1 h2 h3 h4
  clear hb gx hFx
  have hi0 := rowsF_in F r c
  have hz0 : ∀ k, ¬ bigZ (rowsF F c r 0 k) := fun k hk => by
    obtain ⟨i, j, hi, hj, h⟩ := (bigs_iff hi0 fun i j hi hj => rows_at F hi hj).1 ⟨k, hk⟩
    exact h3 i j hi hj h
  obtain ⟨vs, ⟨vA, vn, vc, vl⟩⟩ := v
  dsimp only at hv
  have huv : U64 vl := gv.u
  refine enter Tryz.func3 rfl rfl rfl ?_
  have hF := Fr.refl w
  repeat' (first | (refine TL.isOp ?_; first | (refine TL.isG ?_; first | refine TL.grun rfl rfl rfl ?_) | (refine TL.isCall ?_; refine TL.call rfl rfl ?_; first | (refine (awake_ok _).mono ?_; rintro _ wy ⟨rfl, hE⟩; replace hF := hF.exts hE; clear hE; refine Back.mk ?_) | (refine (h2 _ hF.ext).mono ?_; rintro _ wu ⟨zu, rfl, hLu, hE, hf⟩; obtain ⟨dA, dk, dl, rfl⟩ := lm_mk hLu; rw [mvc_mk _ _ dA]; replace hF := Fr.addLM hF hE hLu hf; clear hE hf hLu; refine Back.mk ?_) | (refine (h4 _ ⟨r, c, dA, r * c, dk, dl⟩ (Fr.lm hF (by repeat (first | exact memH | apply memT)))).mono ?_; rintro _ wy ⟨rfl, hE⟩; replace hF := hF.exts hE; clear hE; refine Back.mk ?_)) | (refine TL.isBin ?_; refine TL.cmpG rfl rfl rfl rfl (fun hc => ?_) (fun hc => ?_) <;> (try (first | (exfalso; omega) | exact absurd rfl hc))) | (apply TL.ev; (case hd => rfl); (case h => (first | exact ev_simple rfl | (apply Ev.isLoad; first | exact ev_loadFr hF rfl (by refine ⟨?_, ?_⟩; (focus (repeat (first | exact InV.head | apply InV.tail))); rfl) | exact ev_loadAFr hF rfl (by refine ⟨?_, ?_⟩; (focus (repeat (first | exact InV.head | apply InV.tail))); rfl)) | exact ev_fieldAddr rfl | exact ev_buildX rfl rfl))) | (refine TL.storeAFr hF rfl rfl rfl rfl (by refine ⟨?_, ?_⟩; (focus (repeat (first | apply SetV.head | apply SetV.tail))); rfl) rfl ?_; clear hF; intro ws hF) | (refine TL.boxAFr hF (d := 2) (cs := [.int .i64 (r : Int), .int .i64 (c : Int), .slice xA (r * c) xk]) rfl rfl ?_; clear hF; intro w2 b2 hF) | (refine TL.boxAFr hF (d := 3) (cs := [.bool vs, .slice vA vn vc]) rfl rfl ?_; clear hF; intro w3 b3 hF) | (refine TL.allocFr hF (d := 5) rfl rfl ?_; clear hF; intro w5 b5 hF) | (refine TL.allocFr hF (d := 7) rfl rfl ?_; clear hF; intro w7 b7 hF)) | (refine T.is ?_; first | refine T.seq ?_ | refine T.region ?_ | refine T.block ?_ | refine T.cond_f rfl ?_ | refine T.skip ?_) | (refine G.is ?_; first | refine G.next ?_) | refine TL.nil ?_)
  replace hF := Fr.moreLM hF (G := natF (rowsF F c r 0)) (K' := 16384) fun H h => LM.moreF (LM.smaller h h3) (Nat.le_refl _) fun i j hi hj => (rows_at F hi hj).symm
  generalize rowsF F c r 0 = Z0 at *
  clear h2 h3 h4
  obtain ⟨t1, et1, hF⟩ := hF.mark
  have hup := LM.up (Fr.lm hF (x := ⟨r, c, dA, r * c, dk, dl⟩) (r := r) (c := c) (F := natF Z0) (K := 16384) (by repeat (first | exact memH | apply memT)))
  rw [← et1] at hup
  have hwt1 : w.heap.size ≤ t1 := by rw [et1]; exact hF.exs.size
  clear et1
  have hzz := hrc0
  replace hrc0 : r * c = 0 := Nat.mul_eq_zero.2 (.inr hrc0.2)
  have h1n := fun w1 => h1 w1 0 0 none [] (by rw [hrc0]; exact ⟨rfl, fun q hq => absurd hq (Nat.not_lt_zero _)⟩) (by rw [hrc0]; exact Sm.nil (by omega) ivc _ _ _ _) (OwL.nil _ _)
  simp only [hrc0] at h1n
  refine T.loop (α := Unit) (fun _ => [(2, .pointer (some ⟨b2, 0, none⟩)), (3, .pointer (some ⟨b3, 0, none⟩)), (5, .pointer (some ⟨b5, 0, none⟩)), (7, .pointer (some ⟨b7, 0, none⟩)), (8, .int .i64 0)]) (fun _ w' => Fr w w' [⟨b7, 24, [.int .i64 (r : Int), .int .i64 (c : Int), .slice none 0 0]⟩, ⟨b5, 24, [.int .i64 (r : Int), .int .i64 (c : Int), .slice dA (r * c) dk]⟩, ⟨b3, 27, [.bool vs, .slice vA vn vc]⟩, ⟨b2, 24, [.int .i64 (r : Int), .int .i64 (c : Int), .slice xA (r * c) xk]⟩] [dpSz t1, dpLM ⟨r, c, dA, r * c, dk, dl⟩ r c (natF Z0) 16384]) (fun _ => 0) () (by repeat (first | exact Sub.nil _ | refine Sub.cons rfl ?_ | refine Sub.cons' rfl (int_congr (by omega)) ?_)) (hF.weak (by repeat (first | exact List.Sublist.refl _ | apply List.Sublist.cons_cons | apply List.Sublist.cons)) (allH (by repeat (first | exact memH | apply memT)) (allH (by repeat (first | exact memH | apply memT)) allN))) ?_
  clear hF
  rintro _ w1 hF
  repeat' (first | (refine TL.isOp ?_; first | (refine TL.isCall ?_; refine TL.call rfl rfl ?_; first | (refine (h1n _).mono ?_; rintro _ wy ⟨g0, m, N, rfl, hE, hg1, hm1, hG⟩; have ht12 := Fr.sz hF (t := t1) (by repeat (first | exact memH | apply memT)); obtain ⟨t2, et2, hF⟩ := hF.mark; rw [← et2] at hg1 hm1 hG ht12; have hwt2 : w.heap.size ≤ t2 := (by rw [et2]; exact hF.exs.size); replace hF := Fr.addZP hF hE (by rw [← et2]; exact hg1) (by rw [← et2]; exact hm1) hG; clear hE hG et2; refine Back.mk ?_)) | (refine TL.isBin ?_; refine TL.cmpG rfl rfl rfl rfl (fun hc => ?_) (fun hc => ?_) <;> (try (first | (exfalso; omega) | exact absurd rfl hc))) | (apply TL.ev; (case hd => rfl); (case h => (first | exact ev_simple rfl | (apply Ev.isBin; first | exact ev_eqlP rfl rfl rfl) | (apply Ev.isLoad; first | exact ev_loadFr hF rfl (by refine ⟨?_, ?_⟩; (focus (repeat (first | exact InV.head | apply InV.tail))); rfl) | exact ev_loadAFr hF rfl (by refine ⟨?_, ?_⟩; (focus (repeat (first | exact InV.head | apply InV.tail))); rfl)) | exact ev_len rfl | exact ev_fieldAddr rfl)))) | (refine T.is ?_; first | refine T.seqM 14 rfl ?_ | refine T.region ?_ | refine T.cond_f rfl ?_ | refine T.exit ?_ | refine T.skip ?_) | (refine G.is ?_; first | refine G.next ?_ | refine G.blockE ?_ | refine G.thenE ?_) | refine TL.nil ?_)
  clear h1 h1n
  repeat' (first | (refine TL.isOp ?_; first | (apply TL.ev; (case hd => rfl); (case h => (first | exact ev_simple rfl)))) | (refine T.is ?_; first | refine T.seqM 15 rfl ?_ | refine T.region ?_ | refine T.block ?_) | (refine G.is ?_; first | refine G.next ?_) | refine TL.nil ?_)
  refine T.loop (α := Unit) (fun _ => [(2, .pointer (some ⟨b2, 0, none⟩)), (3, .pointer (some ⟨b3, 0, none⟩)), (5, .pointer (some ⟨b5, 0, none⟩)), (7, .pointer (some ⟨b7, 0, none⟩)), (9, .pointer (some ⟨g0, 0, none⟩)), (11, .int .i64 0)]) (fun _ w' => Fr w w' [⟨b7, 24, [.int .i64 (r : Int), .int .i64 (c : Int), .slice none 0 0]⟩, ⟨b5, 24, [.int .i64 (r : Int), .int .i64 (c : Int), .slice dA (r * c) dk]⟩, ⟨b3, 27, [.bool vs, .slice vA vn vc]⟩, ⟨b2, 24, [.int .i64 (r : Int), .int .i64 (c : Int), .slice xA (r * c) xk]⟩] [dpGZP (fun k => t2 ≤ k) g0 m r c Z0 N, dpLM ⟨r, c, dA, r * c, dk, dl⟩ r c (natF Z0) 16384]) (fun _ => 0) () (by repeat (first | exact Sub.nil _ | refine Sub.cons rfl ?_ | refine Sub.cons' rfl (int_congr (by omega)) ?_)) (hF.weak (by repeat (first | exact List.Sublist.refl _ | apply List.Sublist.cons_cons | apply List.Sublist.cons)) (allH (by repeat (first | exact memH | apply memT)) (allH (by repeat (first | exact memH | apply memT)) allN))) ?_
  clear hF
  rintro _ w3 hF
  repeat' (first | (refine TL.isOp ?_; first | (refine TL.isBin ?_; refine TL.cmpG rfl rfl rfl rfl (fun hc => ?_) (fun hc => ?_) <;> (try (first | (exfalso; omega) | exact absurd rfl hc))) | (apply TL.ev; (case hd => rfl); (case h => (first | exact ev_simple rfl | (apply Ev.isLoad; first | exact ev_loadFr hF rfl (by refine ⟨?_, ?_⟩; (focus (repeat (first | exact InV.head | apply InV.tail))); rfl)) | exact ev_len rfl | exact ev_fieldAddr rfl)))) | (refine T.is ?_; first | refine T.seqM 21 rfl ?_ | refine T.region ?_ | refine T.cond_f rfl ?_ | refine T.exit ?_) | (refine G.is ?_; first | refine G.next ?_ | refine G.blockE ?_ | refine G.thenE ?_) | refine TL.nil ?_)
  replace hF : Fr w w3 [⟨b5, 24, [.int .i64 (r : Int), .int .i64 (c : Int), .slice dA (r * c) dk]⟩, ⟨b3, 27, [.bool vs, .slice vA vn vc]⟩, ⟨b2, 24, [.int .i64 (r : Int), .int .i64 (c : Int), .slice xA (r * c) xk]⟩] [dpGZP (fun k => t2 ≤ k) g0 m r c Z0 N, dpLM ⟨r, c, dA, r * c, dk, dl⟩ r c (natF Z0) 16384] := hF.weak (by repeat (first | exact List.Sublist.refl _ | apply List.Sublist.cons_cons | apply List.Sublist.cons)) (allH (by repeat (first | exact memH | apply memT)) (allH (by repeat (first | exact memH | apply memT)) allN))
  have hwm := Nat.le_trans hwt2 hm1
  repeat' (first | (refine TL.isOp ?_; first | (refine TL.isG ?_; first | refine TL.grun rfl rfl rfl ?_) | (refine TL.isCall ?_; refine TL.call rfl rfl ?_; first | (refine (ownS _ ⟨vs, ⟨vA, vn, vc, vl⟩⟩ (gv.ext hF.ext) (Nat.le_trans hv (by decide))).mono ?_; rintro _ wo ⟨bx, rfl, hO, hE⟩; have hlt := (Fr.gzp hF (P := fun k => t2 ≤ k) (g := g0) (m := m) (r := r) (c := c) (Z := Z0) (N := N) (by repeat (first | exact memH | apply memT))).gz.lt; have hbx := hO.loZ rfl; have hgb : g0 ≠ bx := (by omega); have hmb : m ≠ bx := (by omega); have hmx : ∀ x ∈ [(⟨vs, ⟨some ⟨bx, 0, none⟩, vn, vn, vl⟩⟩ : IV)], ¬ blk x.m.A m := notblk hmb; have hwl := hF.exs.size; have hG3 := (Fr.gzp hF (P := fun k => t2 ≤ k) (g := g0) (m := m) (r := r) (c := c) (Z := Z0) (N := N) (by repeat (first | exact memH | apply memT))).old; have hG4 := (GZP.ext hG3 hE).mono (P' := fun k => k ≠ bx) (fun k (hk : k < _) e => by omega); replace hF := Fr.swapD (Fr.addOwL (Fr.reGZ (hF.exts hE) hG4) (OwL.of1 (x := ⟨vs, ⟨some ⟨bx, 0, none⟩, vn, vn, vl⟩⟩) hO)); have hupx := hup.mono (P' := fun k => k ≠ bx) (fun k (hk : k < t1) e => by omega); clear hO hE hlt hbx hG3 hG4; refine Back.mk ?_) | (refine (spoilO _ ⟨vs, ⟨some ⟨bx, 0, none⟩, vn, vn, vl⟩⟩ _ ((Fr.owL hF (l := [⟨vs, ⟨some ⟨bx, 0, none⟩, vn, vn, vl⟩⟩]) (by repeat (first | exact memH | apply memT))).1 _ (List.mem_singleton.2 rfl)) (Nat.le_trans hv (by decide))).mono ?_; rintro _ w4 ⟨rfl, hX⟩; have hF3 := Fr.spoil2 (y := ⟨vs, ⟨some ⟨bx, 0, none⟩, vn, vn, vl⟩⟩) (bx := bx) (x := ⟨r, c, dA, r * c, dk, dl⟩) hF rfl (by repeat (first | exact memH | apply memT)) (by repeat (first | exact memH | apply memT)) (by repeat (first | exact memH | apply memT)) hwl hupx hgb hmb hX; clear hF hX; have hF := hF3; clear hF3; refine Back.mk ?_)) | (refine TL.isBin ?_; refine TL.cmpG rfl rfl rfl rfl (fun hc => ?_) (fun hc => ?_) <;> (try (first | (exfalso; omega) | exact absurd rfl hc))) | (apply TL.ev; (case hd => rfl); (case h => (first | exact ev_simple rfl | (apply Ev.isLoad; first | exact ev_loadFr hF rfl (by refine ⟨?_, ?_⟩; (focus (repeat (first | exact InV.head | apply InV.tail))); rfl) | exact ev_loadAFr hF rfl (by refine ⟨?_, ?_⟩; (focus (repeat (first | exact InV.head | apply InV.tail))); rfl)) | exact ev_fieldAddr rfl))) | (refine TL.storeAFr hF rfl rfl rfl rfl (by refine ⟨?_, ?_⟩; (focus (repeat (first | apply SetV.head | apply SetV.tail))); rfl) rfl ?_; clear hF; intro ws hF) | (refine TL.allocFr hF (d := 12) rfl rfl ?_; clear hF; intro w12 b12 hF)) | (refine T.is ?_; first | refine T.seqM 32 rfl ?_ | refine T.region ?_ | refine T.cond_f rfl ?_ | refine T.skip ?_) | (refine G.is ?_; first | refine G.next ?_) | refine TL.nil ?_)
  have hN := gz_n (Fr.gzp hF (P := fun k => k ≠ bx) (g := g0) (m := m) (r := r) (c := c) (Z := Z0) (N := N) (by repeat (first | exact memH | apply memT))).gz hi0 hrc
  have hG := (Fr.gzp hF (P := fun k => k ≠ bx) (g := g0) (m := m) (r := r) (c := c) (Z := Z0) (N := N) (by repeat (first | exact memH | apply memT))).gz
  have hL := Fr.lm hF (x := ⟨r, c, dA, r * c, dk, dl⟩) (r := r) (c := c) (F := natF Z0) (K := 16384) (by repeat (first | exact memH | apply memT))
  have hV5 : Vr w4.heap b5 24 [.int .i64 (r : Int), .int .i64 (c : Int), .slice dA (r * c) dk] := hF.var (b := b5) (by repeat (first | exact InV.head | apply InV.tail))
  have hV2 : Vr w4.heap b2 24 [.int .i64 (r : Int), .int .i64 (c : Int), .slice xA (r * c) xk] := hF.var (b := b2) (by repeat (first | exact InV.head | apply InV.tail))
  have hEw := hF.ext
  clear hF
  have hF := Fr.refl w4
  repeat' (first | (refine TL.isOp ?_; first | (refine TL.isCall ?_; refine TL.call rfl rfl ?_; first | (refine (denseP _ g0 m r c N Z0 (hG.ext hF.ext) hi0 hr hcc hN).mono ?_; rintro _ wa ⟨ba, la, rfl, hVx, hla, hLx, hE, hbx, hOx⟩; rw [mvc_mk _ _ (some ⟨ba, 0, none⟩)]; have hloa := Nat.le_trans hF.exs.size hbx; have hOl : OwL wa.heap w4.heap.size la := OwL.mono hOx hF.exs.size; replace hF := Fr.addDn hF hr hcc hE hbx hVx hla hLx hOl; clear hE hbx hVx hLx hOx hOl; refine Back.mk ?_)) | (apply TL.ev; (case hd => rfl); (case h => (first | exact ev_simple rfl))) | (refine TL.storeAFr hF rfl rfl rfl rfl (by refine ⟨?_, ?_⟩; (focus (repeat (first | apply SetV.head | apply SetV.tail))); rfl) rfl ?_; clear hF; intro ws hF) | (refine TL.allocFr hF (d := 15) rfl rfl ?_; clear hF; intro w15 b15 hF)) | (refine T.is ?_; first | refine T.seqM 33 rfl ?_ | refine T.region ?_) | (refine G.is ?_; first | refine G.next ?_) | refine TL.nil ?_)
  repeat' (first | (refine TL.isOp ?_; first | (refine TL.isCall ?_; refine TL.call rfl rfl ?_; first | (refine (denseP _ g0 m r c N Z0 (hG.ext hF.ext) hi0 hr hcc hN).mono ?_; rintro _ wa ⟨bb, lb, rfl, hVx, hlb, hLx, hE, hbx, hOx⟩; rw [mvc_mk _ _ (some ⟨bb, 0, none⟩)]; have hlob := Nat.le_trans hF.exs.size hbx; have hneab : ba ≠ bb := (by have := (Fr.cb hF (b := ba) (t := 27) (cs := la.flatMap ivc) (by repeat (first | exact memH | apply memT))).lt; omega); have hOl := OwL.app (OwL.ext hE (Fr.owL hF (lo := w4.heap.size) (l := la) (by repeat (first | exact memH | apply memT)))) hOx (Fr.owL hF (lo := w4.heap.size) (l := la) (by repeat (first | exact memH | apply memT))) (Nat.le_refl _) hF.exs.size; replace hF := Fr.addDn hF hr hcc hE hbx hVx hlb hLx hOl; clear hE hbx hVx hLx hOx hOl; refine Back.mk ?_)) | (apply TL.ev; (case hd => rfl); (case h => (first | exact ev_simple rfl))) | (refine TL.storeAFr hF rfl rfl rfl rfl (by refine ⟨?_, ?_⟩; (focus (repeat (first | apply SetV.head | apply SetV.tail))); rfl) rfl ?_; clear hF; intro ws hF) | (refine TL.allocFr hF (d := 17) rfl rfl ?_; clear hF; intro w17 b17 hF)) | (refine T.is ?_; first | refine T.seqM 34 rfl ?_ | refine T.region ?_) | (refine G.is ?_; first | refine G.next ?_) | refine TL.nil ?_)
  repeat' (first | (refine TL.isOp ?_; first | (refine TL.isCall ?_; refine TL.call rfl rfl ?_; first | (refine (placesP _ g0 m r c N Z0 (hG.ext hF.ext) hN).mono ?_; rintro _ wa ⟨lp, bp, rfl, hE, hbx, hVx, hOx, hvx2, hpp⟩; have hlop := Nat.le_trans hF.exs.size hbx; have hOl := OwL.app (OwL.ext hE (Fr.owL hF (lo := w4.heap.size) (l := la ++ lb) (by repeat (first | exact memH | apply memT)))) hOx (Fr.owL hF (lo := w4.heap.size) (l := la ++ lb) (by repeat (first | exact memH | apply memT))) (Nat.le_refl _) hF.exs.size; replace hF := Fr.addPs hF hE hbx hVx hvx2 hOl; clear hE hbx hVx hOx hvx2 hOl; refine Back.mk ?_)) | (apply TL.ev; (case hd => rfl); (case h => (first | exact ev_simple rfl)))) | (refine T.is ?_; first | refine T.seqM 35 rfl ?_ | refine T.region ?_) | (refine G.is ?_; first | refine G.next ?_) | refine TL.nil ?_)
  repeat' (first | (refine TL.isOp ?_; first | (refine TL.isCall ?_; refine TL.call rfl rfl ?_; first | (refine (placesP _ g0 m r c N Z0 (hG.ext hF.ext) hN).mono ?_; rintro _ wa ⟨lq, bq, rfl, hE, hbx, hVx, hOx, hvx2, hpq⟩; have hloq := Nat.le_trans hF.exs.size hbx; have hnepq : bp ≠ bq := (by have := (Fr.cb hF (b := bp) (t := 57) (cs := lp.flatMap plc) (by repeat (first | exact memH | apply memT))).lt; omega); have hOl := OwL.app (OwL.ext hE (Fr.owL hF (lo := w4.heap.size) (l := (la ++ lb) ++ lp.map (·.2)) (by repeat (first | exact memH | apply memT)))) hOx (Fr.owL hF (lo := w4.heap.size) (l := (la ++ lb) ++ lp.map (·.2)) (by repeat (first | exact memH | apply memT))) (Nat.le_refl _) hF.exs.size; replace hF := Fr.addPs hF hE hbx hVx hvx2 hOl; clear hE hbx hVx hOx hvx2 hOl; refine Back.mk ?_)) | (apply TL.ev; (case hd => rfl); (case h => (first | exact ev_simple rfl)))) | (refine T.is ?_; first | refine T.seqM 36 rfl ?_ | refine T.region ?_) | (refine G.is ?_; first | refine G.next ?_) | refine TL.nil ?_)
  repeat' (first | (refine TL.isOp ?_; first | (refine TL.isG ?_; first | refine TL.grun rfl rfl rfl ?_) | (refine TL.isCall ?_; refine TL.call rfl rfl ?_; first | (refine (matsT _ ⟨r, c, some ⟨ba, 0, none⟩, r * c, r * c, la⟩ ⟨r, c, dA, r * c, dk, dl⟩ r c 16384 16384 (fun i j => Z0 ((i : Int), (j : Int))) (natF Z0) (Fr.lm hF (x := ⟨r, c, some ⟨ba, 0, none⟩, r * c, r * c, la⟩) (by repeat (first | exact memH | apply memT))) (hL.ext hF.ext) (fun _ _ _ _ => rfl) (by omega) (by omega)).mono ?_; rintro _ wq ⟨rfl, hE⟩; replace hF := hF.exts hE; clear hE; refine Back.mk ?_) | (refine (matsT _ ⟨r, c, some ⟨bb, 0, none⟩, r * c, r * c, lb⟩ ⟨r, c, dA, r * c, dk, dl⟩ r c 16384 16384 (fun i j => Z0 ((i : Int), (j : Int))) (natF Z0) (Fr.lm hF (x := ⟨r, c, some ⟨bb, 0, none⟩, r * c, r * c, lb⟩) (by repeat (first | exact memH | apply memT))) (hL.ext hF.ext) (fun _ _ _ _ => rfl) (by omega) (by omega)).mono ?_; rintro _ wq ⟨rfl, hE⟩; replace hF := hF.exts hE; clear hE; refine Back.mk ?_) | (refine (placesT _ bp bq N N lp lq N (vr_sm (f := plc) (k := 4) (zs := []) (by omega) (fun _ _ => rfl) (by rw [List.append_nil]; exact Fr.cb hF (b := bp) (t := 57) (cs := lp.flatMap plc) (by repeat (first | exact memH | apply memT))) hpp.len (Nat.le_refl _) (Fr.cb hF (b := bp) (t := 57) (cs := lp.flatMap plc) (by repeat (first | exact memH | apply memT))).lt) (vr_sm (f := plc) (k := 4) (zs := []) (by omega) (fun _ _ => rfl) (by rw [List.append_nil]; exact Fr.cb hF (b := bq) (t := 57) (cs := lq.flatMap plc) (by repeat (first | exact memH | apply memT))) hpq.len (Nat.le_refl _) (Fr.cb hF (b := bq) (t := 57) (cs := lq.flatMap plc) (by repeat (first | exact memH | apply memT))).lt) (by omega) (Fr.gv (l := lp) hF (by repeat (first | exact memH | apply memT))) (Fr.gv (l := lq) hF (by repeat (first | exact memH | apply memT))) (fun i p q hp hq => hpp.at_ hpq hp hq)).mono ?_; rintro _ wC ⟨rfl, hE⟩; replace hF := hF.exts hE; clear hE; refine Back.mk ?_)) | (apply TL.ev; (case hd => rfl); (case h => (first | exact ev_simple rfl | (apply Ev.isLoad; first | exact ev_loadAFr hF rfl (by refine ⟨?_, ?_⟩; (focus (repeat (first | exact InV.head | apply InV.tail))); rfl) | exact ev_loadVA rfl (hV5.ext hF.ext) rfl))))) | (refine T.is ?_; first | refine T.seqM 38 rfl ?_ | refine T.region ?_ | refine T.cond_f rfl ?_ | refine T.skip ?_) | (refine G.is ?_; first | refine G.next ?_) | refine TL.nil ?_)
  have hOT := Fr.owL hF (lo := w4.heap.size) (l := la ++ lb ++ lp.map (·.2) ++ lq.map (·.2)) (by repeat (first | exact memH | apply memT))
  have hCa := Fr.cb hF (b := ba) (t := 27) (cs := la.flatMap ivc) (by repeat (first | exact memH | apply memT))
  have hCb := Fr.cb hF (b := bb) (t := 27) (cs := lb.flatMap ivc) (by repeat (first | exact memH | apply memT))
  have hCp := Fr.cb hF (b := bp) (t := 57) (cs := lp.flatMap plc) (by repeat (first | exact memH | apply memT))
  have hCq := Fr.cb hF (b := bq) (t := 57) (cs := lq.flatMap plc) (by repeat (first | exact memH | apply memT))
  have hva := LM.short (Fr.lm hF (x := ⟨r, c, some ⟨ba, 0, none⟩, r * c, r * c, la⟩) (r := r) (c := c) (F := fun i j => Z0 ((i : Int), (j : Int))) (K := 16384) (by repeat (first | exact memH | apply memT)))
  have hvb := LM.short (Fr.lm hF (x := ⟨r, c, some ⟨bb, 0, none⟩, r * c, r * c, lb⟩) (r := r) (c := c) (F := fun i j => Z0 ((i : Int), (j : Int))) (K := 16384) (by repeat (first | exact memH | apply memT)))
  have hvp := Fr.gv (l := lp) hF (by repeat (first | exact memH | apply memT))
  have hvq := Fr.gv (l := lq) hF (by repeat (first | exact memH | apply memT))
  have hV15 : Vr wC.heap b15 24 [.int .i64 (r : Int), .int .i64 (c : Int), .slice (some ⟨ba, 0, none⟩) (r * c) (r * c)] := hF.var (b := b15) (by repeat (first | exact InV.head | apply InV.tail))
  have hV17 : Vr wC.heap b17 24 [.int .i64 (r : Int), .int .i64 (c : Int), .slice (some ⟨bb, 0, none⟩) (r * c) (r * c)] := hF.var (b := b17) (by repeat (first | exact InV.head | apply InV.tail))
  have hE4 := hF.ext
  have hV2C := hV2.ext hE4
  have hIa := own_i hCa hla
  have hIb := own_i hCb hlb
  have hSp := vr_sm (f := plc) (k := 4) (n := N) (c := N) (zs := []) (by omega) (fun _ _ => rfl) (by rw [List.append_nil]; exact hCp) hpp.len (Nat.le_refl _) hCp.lt
  have hSq := vr_sm (f := plc) (k := 4) (n := N) (c := N) (zs := []) (by omega) (fun _ _ => rfl) (by rw [List.append_nil]; exact hCq) hpq.len (Nat.le_refl _) hCq.lt
  clear hF
  have hF := Fr.refl wC
  repeat' (first | (refine TL.isOp ?_; first | (apply TL.ev; (case hd => rfl); (case h => (first | exact ev_buildX rfl rfl))) | (refine TL.storeAFr hF rfl rfl rfl rfl (by refine ⟨?_, ?_⟩; (focus (repeat (first | apply SetV.head | apply SetV.tail))); rfl) rfl ?_; clear hF; intro ws hF) | (refine TL.allocFr hF (d := 21) rfl rfl ?_; clear hF; intro w21 b21 hF)) | (refine T.is ?_; first | refine T.seqM 39 rfl ?_ | refine T.region ?_) | (refine G.is ?_; first | refine G.next ?_) | refine TL.nil ?_)
  have hb21 := (hF.lo (b := b21) (by repeat (first | exact InV.head | apply InV.tail))).resolve_right id
  replace hF := Fr.newBK (L' := []) hF hb21
  repeat' (first | (refine TL.isOp ?_; first | (refine TL.isCall ?_; refine TL.call rfl rfl ?_; first | (refine (bmat_ok _ ⟨b21, none, 0, [], none, 0, []⟩ ⟨r, c, some ⟨ba, 0, none⟩, r * c, r * c, la⟩ (Fr.bkp hF (by repeat (first | exact memH | apply memT))) (OwC.ext hF.ext hIa) (by show 0 + r * c ≤ 4294967296; omega) (by show 0 ≤ 4294967296; omega)).mono ?_; rintro _ wr ⟨rfl, WA1, wc1, IA1, ic1, hp1, hX, hfp⟩; have hF3 : Fr wC wr [] [dpBK wC.heap.size ⟨b21, WA1, wc1, la.map (·.m), IA1, ic1, [⟨some ⟨ba, 0, none⟩, r * c, r * c, la⟩]⟩] := Fr.callBK hF hX hp1 hfp; clear hF hp1 hX hfp; have hF := hF3; clear hF3; refine Back.mk ?_)) | (apply TL.ev; (case hd => rfl); (case h => (first | (apply Ev.isLoad; first | exact ev_loadVA rfl (hV15.ext hF.ext) rfl))))) | (refine T.is ?_; first | refine T.seqM 40 rfl ?_ | refine T.region ?_) | (refine G.is ?_; first | refine G.next ?_) | refine TL.nil ?_)
  repeat' (first | (refine TL.isOp ?_; first | (refine TL.isCall ?_; refine TL.call rfl rfl ?_; first | (refine (bmat_ok _ ⟨b21, WA1, wc1, la.map (·.m), IA1, ic1, [⟨some ⟨ba, 0, none⟩, r * c, r * c, la⟩]⟩ ⟨r, c, some ⟨bb, 0, none⟩, r * c, r * c, lb⟩ (Fr.bkp hF (by repeat (first | exact memH | apply memT))) (OwC.ext hF.ext hIb) (by show (la.map (·.m)).length + r * c ≤ 4294967296; rw [List.length_map]; omega) (by show 1 ≤ 4294967296; omega)).mono ?_; rintro _ wr ⟨rfl, WA1, wc1, IA1, ic1, hp1, hX, hfp⟩; have hF3 : Fr wC wr [] [dpBK wC.heap.size ⟨b21, WA1, wc1, la.map (·.m) ++ lb.map (·.m), IA1, ic1, [⟨some ⟨ba, 0, none⟩, r * c, r * c, la⟩, ⟨some ⟨bb, 0, none⟩, r * c, r * c, lb⟩]⟩] := Fr.callBK hF hX hp1 hfp; clear hF hp1 hX hfp; have hF := hF3; clear hF3; refine Back.mk ?_)) | (apply TL.ev; (case hd => rfl); (case h => (first | exact ev_simple rfl | (apply Ev.isLoad; first | exact ev_loadVA rfl (hV17.ext hF.ext) rfl))))) | (refine T.is ?_; first | refine T.seq ?_ | refine T.region ?_ | refine T.block ?_) | (refine G.is ?_; first | refine G.next ?_) | refine TL.nil ?_)
  refine T.loop (α := Nat × Option Addr × Nat × Option Addr × Nat) (fun x => [(2, .pointer (some ⟨b2, 0, none⟩)), (5, .pointer (some ⟨b5, 0, none⟩)), (9, .pointer (some ⟨g0, 0, none⟩)), (19, .slice (some ⟨bp, 0, none⟩) N N), (20, .slice (some ⟨bq, 0, none⟩) N N), (21, .pointer (some ⟨b21, 0, none⟩)), (22, .int .i64 (x.1 : Int))])
    (fun x w' => x.1 ≤ N ∧ Fr wC w' [] [dpBK wC.heap.size ⟨b21, x.2.1, x.2.2.1, wsI la lb lp lq x.1, x.2.2.2.1, x.2.2.2.2, [⟨some ⟨ba, 0, none⟩, r * c, r * c, la⟩, ⟨some ⟨bb, 0, none⟩, r * c, r * c, lb⟩]⟩]) (fun x => N - x.1) (0, WA1, wc1, IA1, ic1) (by repeat (first | exact Sub.nil _ | refine Sub.cons rfl ?_ | refine Sub.cons' rfl (int_congr (by omega)) ?_)) ⟨Nat.zero_le _, by dsimp only; rw [wsI_zero]; exact hF⟩ ?_
  clear hF
  rintro ⟨i, WA, wc, IA, ic⟩ w5 ⟨hi, hF⟩
  dsimp only at hi hF ⊢
  rcases Nat.lt_or_ge i N with hin | hin
  · obtain ⟨p, hp⟩ : ∃ p, lp[i]? = some p := ⟨_, List.getElem?_eq_getElem (by rw [hpp.len]; exact hin)⟩
    obtain ⟨q, hq⟩ : ∃ q, lq[i]? = some q := ⟨_, List.getElem?_eq_getElem (by rw [hpq.len]; exact hin)⟩
    repeat' (first | (refine TL.isOp ?_; first | (refine TL.isCall ?_; refine TL.call rfl rfl ?_; first | (refine (bint_ok _ ⟨b21, WA, wc, wsI la lb lp lq i, IA, ic, [⟨some ⟨ba, 0, none⟩, r * c, r * c, la⟩, ⟨some ⟨bb, 0, none⟩, r * c, r * c, lb⟩]⟩ p.2 (Fr.bkp hF (by repeat (first | exact memH | apply memT))) (by show (wsI la lb lp lq i).length ≤ 4294967296; rw [wsI_len hpp.len hpq.len hi]; omega)).mono ?_; rintro _ wr ⟨rfl, WA1, wc1, IA1, ic1, hp1, hX, hfp⟩; have hF3 : Fr wC wr [] [dpBK wC.heap.size ⟨b21, WA1, wc1, wsI la lb lp lq i ++ [p.2.m], IA1, ic1, [⟨some ⟨ba, 0, none⟩, r * c, r * c, la⟩, ⟨some ⟨bb, 0, none⟩, r * c, r * c, lb⟩]⟩] := Fr.callBK hF hX hp1 hfp; clear hF hp1 hX hfp; have hF := hF3; clear hF3; refine Back.mk ?_) | (refine (bint_ok _ ⟨b21, WA1, wc1, wsI la lb lp lq i ++ [p.2.m], IA1, ic1, [⟨some ⟨ba, 0, none⟩, r * c, r * c, la⟩, ⟨some ⟨bb, 0, none⟩, r * c, r * c, lb⟩]⟩ q.2 (Fr.bkp hF (by repeat (first | exact memH | apply memT))) (by show (wsI la lb lp lq i ++ [p.2.m]).length ≤ 4294967296; rw [List.length_append, wsI_len hpp.len hpq.len hi]; simp only [List.length_cons, List.length_nil]; omega)).mono ?_; rintro _ wr ⟨rfl, WA1, wc1, IA1, ic1, hp1, hX, hfp⟩; have hF3 : Fr wC wr [] [dpBK wC.heap.size ⟨b21, WA1, wc1, wsI la lb lp lq i ++ [p.2.m] ++ [q.2.m], IA1, ic1, [⟨some ⟨ba, 0, none⟩, r * c, r * c, la⟩, ⟨some ⟨bb, 0, none⟩, r * c, r * c, lb⟩]⟩] := Fr.callBK hF hX hp1 hfp; clear hF hp1 hX hfp; have hF := hF3; clear hF3; refine Back.mk ?_)) | (refine TL.isBin ?_; refine TL.cmpG rfl rfl rfl rfl (fun hc => ?_) (fun hc => ?_) <;> (try (first | (exfalso; omega) | exact absurd rfl hc))) | (apply TL.ev; (case hd => rfl); (case h => (first | exact ev_simple rfl | (apply Ev.isBin; first | exact ev_arN rfl rfl rfl (by omega)) | (apply Ev.isLoad; first | exact ev_loadMS rfl (hSp.ext hF.ext) hp rfl | exact ev_loadMS rfl (hSq.ext hF.ext) hq rfl) | exact ev_len rfl | exact ev_indexM rfl rfl hin (.inr rfl) | exact ev_fieldAddrE rfl rfl)))) | (refine T.is ?_; first | refine T.seq ?_ | refine T.region ?_ | refine T.block ?_ | refine T.cond_t rfl ?_ | refine T.skip ?_) | (refine G.is ?_; first | refine G.next ?_ | refine G.blockN ?_) | refine TL.nil ?_)
    refine G.again (i + 1, WA1, wc1, IA1, ic1) (by repeat (first | exact Sub.nil _ | refine Sub.cons rfl ?_ | refine Sub.cons' rfl (int_congr (by omega)) ?_)) ⟨hin, ?_⟩ (by dsimp only; omega)
    dsimp only
    rw [wsI_succ hp hq]
    exact hF
  obtain rfl : N = i := by omega
  rw [wsI_all hpp.len hpq.len] at hF
  have hll : (lp.map (·.2)).length = (lq.map (·.2)).length := by rw [List.length_map, List.length_map, hpp.len, hpq.len]
  obtain ⟨T1, hT1⟩ : ∃ T : List IV, T = (la ++ lb ++ ilv (lp.map (·.2)) (lq.map (·.2))) := ⟨_, rfl⟩
  rw [← hT1] at hF
  have hTl : (T1.map (·.m)).length ≤ 100000 := by
    rw [hT1, List.length_map, List.length_append, List.length_append, ilv_len hll, List.length_map, hpp.len, hla, hlb]; omega
  have hOp : OwL wC.heap w4.heap.size T1 := OwL.perm hOT (by rw [hT1, List.append_assoc (la ++ lb)]; exact (ilv_perm hll).append_left (la ++ lb))
  have hK1 : ∀ y ∈ T1, y.m.n ≤ 16384 := fun y hy => by
    rw [hT1] at hy
    rcases List.mem_append.1 hy with hy | hy
    · rcases List.mem_append.1 hy with hy | hy
      · exact hva y hy
      · exact hvb y hy
    · rcases List.mem_append.1 ((ilv_perm hll).mem_iff.2 hy) with hy | hy
      · obtain ⟨p, hp, rfl⟩ := List.mem_map.1 hy; exact (hvp p hp).2
      · obtain ⟨p, hp, rfl⟩ := List.mem_map.1 hy; exact (hvq p hp).2
  repeat' (first | (refine TL.isOp ?_; first | (refine TL.isG ?_; first | refine TL.grun rfl rfl rfl ?_) | (refine TL.isBin ?_; refine TL.cmpG rfl rfl rfl rfl (fun hc => ?_) (fun hc => ?_) <;> (try (first | (exfalso; omega) | exact absurd rfl hc))) | (apply TL.ev; (case hd => rfl); (case h => (first | exact ev_simple rfl | (apply Ev.isLoad; first | exact ev_loadV rfl (hV2C.ext hF.ext) rfl) | exact ev_len rfl | exact ev_fieldAddr rfl)))) | (refine T.is ?_; first | refine T.seqM 51 rfl ?_ | refine T.region ?_ | refine T.cond_f rfl ?_ | refine T.exit ?_ | refine T.skip ?_) | (refine G.is ?_; first | refine G.next ?_ | refine G.blockE ?_ | refine G.thenE ?_) | refine TL.nil ?_)
  have hT := OwL.ext hF.ext hOp
  have hws : T1.map (·.m) = T1.map (·.m) := rfl
  have hK2 := hK1
  rw [List.length_map] at hTl
  repeat' (first | (refine TL.isOp ?_; first | (refine TL.isCall ?_; refine TL.call rfl rfl ?_; first | (refine (apart2 _ ⟨b21, WA, wc, T1.map (·.m), IA, ic, [⟨some ⟨ba, 0, none⟩, r * c, r * c, la⟩, ⟨some ⟨bb, 0, none⟩, r * c, r * c, lb⟩]⟩ T1 la lb ba bb (r * c) 16384 w4.heap.size (Fr.bkp hF (by repeat (first | exact memH | apply memT))) hws rfl hT hK2 (by omega) (by omega) (by omega) (hCa.ext hF.ext) (hCb.ext hF.ext) hla hlb hneab hloa hlob).mono ?_; rintro _ wD ⟨rfl, hX⟩; refine Back.mk ?_)) | (apply TL.ev; (case hd => rfl); (case h => (first | exact ev_simple rfl)))) | (refine T.is ?_; first | refine T.seqM 52 rfl ?_ | refine T.region ?_) | (refine G.is ?_; first | refine G.next ?_) | refine TL.nil ?_)
  have hE5 : Ext w4 wD := Exs.ext0 ((Exs.of (hE4.trans hF.ext)).then hX (fun i hi hS => by have := hS.1; omega))
  have tyP : ∀ b cs, Vr wC.heap b 57 cs → Vr wD.heap b 57 cs := fun b cs hV => by
    have h1 := hV.ext hF.ext
    have h2 := h1.lt
    have h3 := h1
    unfold Vr at h1 ⊢
    exact (hX.block b h2 (fun hS => hS.2.elim (fun h => ty_ne (by decide) h (Vr.ty h3)) (fun h => ty_ne (by decide) h (Vr.ty h3)))).trans h1
  have hPp := tyP bp _ hCp
  have hPq := tyP bq _ hCq
  have hltp := hPp.lt
  have hltq := hPq.lt
  clear hF hX tyP hT
  have hF := Fr.refl wD
  repeat' (first | (refine TL.isOp ?_; first | (refine TL.isCall ?_; refine TL.call rfl rfl ?_; first | (refine (apartT _ b230 bp bq N N lp lq hSl (fun k hk h => by obtain ⟨_, o, e⟩ := hk; cases e; rcases h with h | h <;> omega) (hPp.ext hF.ext) (hPq.ext hF.ext) hpp.len hpq.len hN hN hnepq).mono ?_; rintro _ wF ⟨rfl, hX2⟩; refine Back.mk ?_)) | (apply TL.ev; (case hd => rfl); (case h => (first | exact ev_simple rfl))) | (refine TL.build2 (f := fq) (u := (some ⟨bp, 0, none⟩, N, N)) (v := (some ⟨bq, 0, none⟩, N, N)) (fun _ => rfl) rfl rfl rfl rfl ?_; intro w230 b230 eb230 hB hE hz; replace hF := hF.exts hE; have hSl := (hB.slN (n := 2) (c := 2) rfl (Nat.le_refl _) hB.lt).size; clear hB hE hz)) | (refine T.is ?_; first | refine T.seqM 53 rfl ?_ | refine T.region ?_) | (refine G.is ?_; first | refine G.next ?_) | refine TL.nil ?_)
  have hE6 : Ext w4 wF := Exs.ext0 ((Exs.of (hE5.trans hF.ext)).then hX2 (fun i hi hS => by rcases hS with h | h <;> omega))
  clear hF hX2 hSl
  have hF := Fr.refl wF
  repeat' (first | (refine TL.isOp ?_; first | (refine TL.isG ?_; first | refine TL.grun rfl rfl rfl ?_) | (refine TL.isCall ?_; refine TL.call rfl rfl ?_; first | (refine (denseS _ g0 m r c N Z0 (hG.ext (hE6.trans hF.ext)) hi0 hr hcc hN).mono ?_; rintro _ wu ⟨zu, rfl, hLu, hE, hf⟩; obtain ⟨uA, uk, ul, rfl⟩ := lm_mk hLu; rw [mvc_mk _ _ uA]; replace hF := Fr.addLM hF hE hLu hf; clear hE hf hLu; refine Back.mk ?_) | (refine (matsT _ ⟨r, c, uA, r * c, uk, ul⟩ ⟨r, c, dA, r * c, dk, dl⟩ r c 16384 16384 (fun i j => Z0 ((i : Int), (j : Int))) (natF Z0) (Fr.lm hF (x := ⟨r, c, uA, r * c, uk, ul⟩) (by repeat (first | exact memH | apply memT))) (hL.ext (hE6.trans hF.ext)) (fun _ _ _ _ => rfl) (by omega) (by omega)).mono ?_; rintro _ wq ⟨rfl, hE⟩; replace hF := hF.exts hE; clear hE; refine Back.mk ?_)) | (apply TL.ev; (case hd => rfl); (case h => (first | exact ev_simple rfl | (apply Ev.isLoad; first | exact ev_loadAFr hF rfl (by refine ⟨?_, ?_⟩; (focus (repeat (first | exact InV.head | apply InV.tail))); rfl) | exact ev_loadVA rfl ((hV5.ext hE6).ext hF.ext) rfl)))) | (refine TL.storeAFr hF rfl rfl rfl rfl (by refine ⟨?_, ?_⟩; (focus (repeat (first | apply SetV.head | apply SetV.tail))); rfl) rfl ?_; clear hF; intro ws hF) | (refine TL.allocFr hF (d := 29) rfl rfl ?_; clear hF; intro w29 b29 hF)) | (refine T.is ?_; first | refine T.seq ?_ | refine T.region ?_ | refine T.ret ?_) | (refine G.is ?_; first | refine G.next ?_) | refine TL.nil ?_)
  all_goals exact G.ret1 rfl rfl ⟨rfl, hEw.trans (hE6.trans hF.ext)⟩
end Go.Proofs.YtlpheckjogphmaaGreat
set_option linter.unusedSectionVars false
namespace Go.Proofs.YtlpheckjogphmaaGreat
open Go Go.Eng Go.Proofs Go.NatM Go.RowKit
theorem keeps_off (w : World) (x : MV) (hx : RM w.heap x 1048576 ∧ InR x) (hn : ¬ ∃ r c, Sound x r c) (v : IV) :
    Cl Tryz.prog 3 #[.agg (mvc x).toArray, ivA v] w (YesM w) := by
  have hl := fun w1 => mleast_bad w1 x hx.2 hn
  obtain ⟨xr, xc, xA, xn, xk, xl⟩ := x
  obtain ⟨vs, ⟨vA, vn, vc, vl⟩⟩ := v
  refine enter Tryz.func3 rfl rfl rfl ?_
  have hF := Fr.refl w
  repeat' (first | (refine TL.isOp ?_; first | (refine TL.isG ?_; first | refine TL.gskip rfl rfl rfl rfl ?_) | (refine TL.isCall ?_; refine TL.call rfl rfl ?_; first | (refine (awake_ok _).mono ?_; rintro _ wy ⟨rfl, hE⟩; replace hF := hF.exts hE; clear hE; refine Back.mk ?_) | (refine (hl _).mono ?_; rintro _ wu ⟨rfl, hE⟩; replace hF := hF.exts hE; clear hE; refine Back.mk ?_)) | (refine TL.isBin ?_; refine TL.cmpG rfl rfl rfl rfl (fun hc => ?_) (fun hc => ?_) <;> (try (first | (exfalso; omega) | exact absurd rfl hc))) | (apply TL.ev; (case hd => rfl); (case h => (first | exact ev_simple rfl | (apply Ev.isLoad; first | exact ev_loadAFr hF rfl (by refine ⟨?_, ?_⟩; (focus (repeat (first | exact InV.head | apply InV.tail))); rfl))))) | (refine TL.storeAFr hF rfl rfl rfl rfl (by refine ⟨?_, ?_⟩; (focus (repeat (first | apply SetV.head | apply SetV.tail))); rfl) rfl ?_; clear hF; intro ws hF) | (refine TL.boxAFr hF (d := 2) (cs := [.int .i64 xr, .int .i64 xc, .slice xA xn xk]) rfl rfl ?_; clear hF; intro w2 b2 hF) | (refine TL.boxAFr hF (d := 3) (cs := [.bool vs, .slice vA vn vc]) rfl rfl ?_; clear hF; intro w3 b3 hF) | (refine TL.allocFr hF (d := 5) rfl rfl ?_; clear hF; intro w5 b5 hF)) | (refine T.is ?_; first | refine T.seq ?_ | refine T.region ?_ | refine T.cond_t rfl ?_ | refine T.cond_f rfl ?_ | refine T.ret ?_ | refine T.skip ?_) | (refine G.is ?_; first | refine G.next ?_ | refine G.thenR ?_) | refine TL.nil ?_)
  all_goals exact G.ret1 rfl rfl ⟨rfl, hF.ext⟩
theorem keeps_large (w : World) (x : MV) (r c : Nat) (gx : GM w.heap x r c 1048576) (hb : ∃ y ∈ x.l, big y) (v : IV) :
    Cl Tryz.prog 3 #[.agg (mvc x).toArray, ivA v] w (YesM w) := by
  have hbs := gm_bigs gx hb
  have h2 := fun w1 (hE : Ext w w1) => mleast_ok w1 x r c 1048576 (gx.ext hE) (by omega)
  have h4 := fun w1 (m : MV) (h : LM w1.heap m r c (ent x c) 1048576) => longLM w1 m r c 1048576 (ent x c) h (by omega) true ⟨fun _ => hbs, fun _ => rfl⟩
  obtain ⟨F, hFx⟩ : ∃ F, ent x c = F := ⟨_, rfl⟩
  simp only [hFx] at h2 h4
  clear hbs hb gx hFx
  obtain ⟨xr, xc, xA, xn, xk, xl⟩ := x
  obtain ⟨vs, ⟨vA, vn, vc, vl⟩⟩ := v
  refine enter Tryz.func3 rfl rfl rfl ?_
  have hF := Fr.refl w
  repeat' (first | (refine TL.isOp ?_; first | (refine TL.isG ?_; first | refine TL.grun rfl rfl rfl ?_) | (refine TL.isCall ?_; refine TL.call rfl rfl ?_; first | (refine (awake_ok _).mono ?_; rintro _ wy ⟨rfl, hE⟩; replace hF := hF.exts hE; clear hE; refine Back.mk ?_) | (refine (h2 _ hF.ext).mono ?_; rintro _ wu ⟨zu, rfl, hLu, hE, hf⟩; obtain ⟨dA, dk, dl, rfl⟩ := lm_mk hLu; rw [mvc_mk _ _ dA]; replace hF := Fr.addLM hF hE hLu hf; clear hE hf hLu; refine Back.mk ?_) | (refine (h4 _ ⟨r, c, dA, r * c, dk, dl⟩ (Fr.lm hF (by repeat (first | exact memH | apply memT)))).mono ?_; rintro _ wy ⟨rfl, hE⟩; replace hF := hF.exts hE; clear hE; refine Back.mk ?_)) | (refine TL.isBin ?_; refine TL.cmpG rfl rfl rfl rfl (fun hc => ?_) (fun hc => ?_) <;> (try (first | (exfalso; omega) | exact absurd rfl hc))) | (apply TL.ev; (case hd => rfl); (case h => (first | exact ev_simple rfl | (apply Ev.isLoad; first | exact ev_loadAFr hF rfl (by refine ⟨?_, ?_⟩; (focus (repeat (first | exact InV.head | apply InV.tail))); rfl))))) | (refine TL.storeAFr hF rfl rfl rfl rfl (by refine ⟨?_, ?_⟩; (focus (repeat (first | apply SetV.head | apply SetV.tail))); rfl) rfl ?_; clear hF; intro ws hF) | (refine TL.boxAFr hF (d := 2) (cs := [.int .i64 xr, .int .i64 xc, .slice xA xn xk]) rfl rfl ?_; clear hF; intro w2 b2 hF) | (refine TL.boxAFr hF (d := 3) (cs := [.bool vs, .slice vA vn vc]) rfl rfl ?_; clear hF; intro w3 b3 hF) | (refine TL.allocFr hF (d := 5) rfl rfl ?_; clear hF; intro w5 b5 hF)) | (refine T.is ?_; first | refine T.seq ?_ | refine T.region ?_ | refine T.cond_t rfl ?_ | refine T.cond_f rfl ?_ | refine T.ret ?_ | refine T.skip ?_) | (refine G.is ?_; first | refine G.next ?_ | refine G.thenR ?_) | refine TL.nil ?_)
  all_goals exact G.ret1 rfl rfl ⟨rfl, hF.ext⟩
theorem keeps_t (w : World) (x : MV) (hx : RM w.heap x 1048576 ∧ InR x) (y : IV) (hy : GI w.heap y ∧ y.m.n ≤ 1048576) :
    Cl Tryz.prog 3 #[.agg (mvc x).toArray, ivA y] w (YesM w) := by
  by_cases h : ∃ r c, Sound x r c
  · obtain ⟨r, c, h⟩ := h
    have gx := hx.1.gm h
    by_cases h2 : ∃ y ∈ x.l, big y
    · exact keeps_large w x r c gx h2 y
    · have h3 := fun y (hy : y ∈ x.l) (hb : big y) => h2 ⟨y, hy, hb⟩
      rcases Nat.eq_zero_or_pos r with hr | hr
      · exact keeps_r0 w x r c gx h3 y hy.1 hy.2 hr
      · rcases Nat.eq_zero_or_pos c with hc | hc
        · exact keeps_c0 w x r c gx h3 y hy.1 hy.2 ⟨hr, hc⟩
        · exact keeps_full w x r c gx h3 y hy.1 hy.2 ⟨hr, hc⟩
  · exact keeps_off w x hx h y
end Go.Proofs.YtlpheckjogphmaaGreat
namespace Go.Proofs.YtlpheckjogphmaaGreat
open Go Go.Eng Go.Proofs Go.NatM Go.ChangeShapes Go.WideShapes Go.ChangeAt Go.RowKit Go.Deep
set_option maxRecDepth 10000 in
theorem open_intI {H : Type} {enc : TypeId × Value → H} {W : World} {base base' : Nat} {spare : Nat → Bool} {held : Bool} {v : Value} {d : DataW H} {ps : List MemPlace}
    (hv : Value.okWide Tryz.prog W .any base' 27 v) (h : DataW.Trod enc Tryz.prog W base spare held 27 v d ps) :
    ∃ y : IV, v = .agg (ivc y).toArray ∧ GI W.heap y ∧ ivw y ≤ Rows.uptoBulk d := by
  obtain ⟨cs, rfl, _⟩ := okWide_struct Tryz.underlying27 hv
  obtain ⟨fuel, hf⟩ := h
  obtain ⟨y, e, r⟩ := open_int fuel _ (d, ps) hf
  have e' : cs.toList = ivc y := e
  refine ⟨y, ?_, r⟩
  rw [← e']
theorem small_intI {H : Array Obj} {y : IV} {b : Nat} (h : b ≤ 1048576) (r : GI H y) (hn : ivw y ≤ b) : GI H y ∧ y.m.n ≤ 1048576 := ⟨r, Nat.le_trans hn h⟩
end Go.Proofs.YtlpheckjogphmaaGreat
