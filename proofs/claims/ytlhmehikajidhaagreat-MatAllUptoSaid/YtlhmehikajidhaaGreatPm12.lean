/- The document's answers for layer 9: both, Equal, Add, Scale, Sub, Trace. The document's answers for layer 9: Mul, VecMul, Pow, Equal. The document's answers for layer 9: Pow, Cmp, Equal. The engine, more operations: a table that is a package-level variable; -x of uint64. The array types of this translation. Layer 9: Kron; MatKrons (printed by genkrons.py). -/
import Derived.Test.YtlhmehikajidhaaGreatPm10
import Derived.Test.YtlhmehikajidhaaGreatPm11
import Derived.Test.YtlhmehikajidhaaGreatPm7
import Derived.Test.YtlhmehikajidhaaGreatPm1
import Derived.Test.YtlhmehikajidhaaGreatPm2
import Derived.Test.YtlhmehikajidhaaGreatPm6
import Derived.Test.YtlhmehikajidhaaGreatPm5
set_option maxHeartbeats 16000000
set_option linter.unusedVariables false
set_option linter.unusedSimpArgs false
namespace Go.Proofs.YtlhmehikajidhaaGreat
open Go Go.Eng Go.Proofs Go.NatM Go.RowKit
theorem rchk_any (w : World) (x : MV) {z : Int} (h : (Snd x ∧ z = 0) ∨ (¬ Snd x ∧ z = 1)) : Cl Tryz.prog 73 #[.agg (mvc x).toArray] w (fun e w' => e = .returned (.int .i64 z) ∧ Ext w w') := by
  rcases h with ⟨⟨r, c, h⟩, rfl⟩ | ⟨h, rfl⟩
  · exact rchkE_ok w x r c h
  · exact rchkE_bad w x (fun r c hs => h ⟨r, c, hs⟩)
theorem rboth_ok (w : World) (x y : MV) (hx : Snd x) (hy : Snd y) : Cl Tryz.prog 70 #[.agg (mvc x).toArray, .agg (mvc y).toArray] w (fun e w' => e = .returned (.int .i64 0) ∧ Ext w w') := by
  have hx := fun w => rchk_any w x (.inl ⟨hx, rfl⟩)
  have hy := fun w => rchk_any w y (.inl ⟨hy, rfl⟩)
  obtain ⟨xr, xc, A, n, k, l⟩ := x
  obtain ⟨yr, yc, A2, n2, k2, l2⟩ := y
  refine enter Tryz.func70 rfl rfl rfl ?_
  have hF := Fr.refl w
  repeat' (first | (refine TL.isOp ?_; first | (refine TL.isG ?_; first | refine TL.grun rfl rfl rfl ?_) | (refine TL.isCall ?_; refine TL.call rfl rfl ?_; first | (refine (hx _).mono ?_; rintro _ wy ⟨rfl, hE⟩; replace hF := hF.exts hE; clear hE; refine Back.mk ?_) | (refine (hy _).mono ?_; rintro _ wy ⟨rfl, hE⟩; replace hF := hF.exts hE; clear hE; refine Back.mk ?_)) | (refine TL.isBin ?_; refine TL.cmpG rfl rfl rfl rfl (fun hc => ?_) (fun hc => ?_) <;> (try (first | (exfalso; omega) | exact absurd rfl hc))) | (apply TL.ev; (case hd => rfl); (case h => (first | exact ev_simple rfl | (apply Ev.isLoad; first | exact ev_loadAFr hF rfl (by refine ⟨?_, ?_⟩; (focus (repeat (first | exact InV.head | apply InV.tail))); rfl))))) | (refine TL.boxAFr hF (d := 2) (cs := [.int .i64 xr, .int .i64 xc, .slice A n k]) rfl rfl ?_; clear hF; intro w2 b2 hF) | (refine TL.boxAFr hF (d := 3) (cs := [.int .i64 yr, .int .i64 yc, .slice A2 n2 k2]) rfl rfl ?_; clear hF; intro w3 b3 hF)) | (refine T.is ?_; first | refine T.seq ?_ | refine T.region ?_ | refine T.cond_f rfl ?_ | refine T.ret ?_ | refine T.skip ?_) | (refine G.is ?_; first | refine G.next ?_) | refine TL.nil ?_)
  exact G.ret1 rfl rfl ⟨rfl, hF.ext⟩
theorem rboth_bad (w : World) (x y : MV) (h : ¬ (Snd x ∧ Snd y)) : Cl Tryz.prog 70 #[.agg (mvc x).toArray, .agg (mvc y).toArray] w (fun e w' => e = .returned (.int .i64 1) ∧ Ext w w') := by
  by_cases hxs : Snd x
  · have hx := fun w => rchk_any w x (.inl ⟨hxs, rfl⟩)
    have hy := fun w => rchk_any w y (.inr ⟨fun hy => h ⟨hxs, hy⟩, rfl⟩)
    clear h hxs
    obtain ⟨xr, xc, A, n, k, l⟩ := x
    obtain ⟨yr, yc, A2, n2, k2, l2⟩ := y
    refine enter Tryz.func70 rfl rfl rfl ?_
    have hF := Fr.refl w
    repeat' (first | (refine TL.isOp ?_; first | (refine TL.isG ?_; first | refine TL.grun rfl rfl rfl ?_) | (refine TL.isCall ?_; refine TL.call rfl rfl ?_; first | (refine (hx _).mono ?_; rintro _ wy ⟨rfl, hE⟩; replace hF := hF.exts hE; clear hE; refine Back.mk ?_) | (refine (hy _).mono ?_; rintro _ wy ⟨rfl, hE⟩; replace hF := hF.exts hE; clear hE; refine Back.mk ?_)) | (refine TL.isBin ?_; refine TL.cmpG rfl rfl rfl rfl (fun hc => ?_) (fun hc => ?_) <;> (try (first | (exfalso; omega) | exact absurd rfl hc))) | (apply TL.ev; (case hd => rfl); (case h => (first | exact ev_simple rfl | (apply Ev.isLoad; first | exact ev_loadAFr hF rfl (by refine ⟨?_, ?_⟩; (focus (repeat (first | exact InV.head | apply InV.tail))); rfl))))) | (refine TL.boxAFr hF (d := 2) (cs := [.int .i64 xr, .int .i64 xc, .slice A n k]) rfl rfl ?_; clear hF; intro w2 b2 hF) | (refine TL.boxAFr hF (d := 3) (cs := [.int .i64 yr, .int .i64 yc, .slice A2 n2 k2]) rfl rfl ?_; clear hF; intro w3 b3 hF)) | (refine T.is ?_; first | refine T.seq ?_ | refine T.region ?_ | refine T.cond_t rfl ?_ | refine T.ret ?_) | (refine G.is ?_; first | refine G.next ?_ | refine G.thenR ?_) | refine TL.nil ?_)
    exact G.ret1 rfl rfl ⟨rfl, hF.ext⟩
  · have hx := fun w => rchk_any w x (.inr ⟨hxs, rfl⟩)
    clear h hxs
    obtain ⟨xr, xc, A, n, k, l⟩ := x
    obtain ⟨yr, yc, A2, n2, k2, l2⟩ := y
    refine enter Tryz.func70 rfl rfl rfl ?_
    have hF := Fr.refl w
    repeat' (first | (refine TL.isOp ?_; first | (refine TL.isG ?_; first | refine TL.gskip rfl rfl rfl rfl ?_) | (refine TL.isCall ?_; refine TL.call rfl rfl ?_; first | (refine (hx _).mono ?_; rintro _ wy ⟨rfl, hE⟩; replace hF := hF.exts hE; clear hE; refine Back.mk ?_)) | (refine TL.isBin ?_; refine TL.cmpG rfl rfl rfl rfl (fun hc => ?_) (fun hc => ?_) <;> (try (first | (exfalso; omega) | exact absurd rfl hc))) | (apply TL.ev; (case hd => rfl); (case h => (first | exact ev_simple rfl | (apply Ev.isLoad; first | exact ev_loadAFr hF rfl (by refine ⟨?_, ?_⟩; (focus (repeat (first | exact InV.head | apply InV.tail))); rfl))))) | (refine TL.boxAFr hF (d := 2) (cs := [.int .i64 xr, .int .i64 xc, .slice A n k]) rfl rfl ?_; clear hF; intro w2 b2 hF) | (refine TL.boxAFr hF (d := 3) (cs := [.int .i64 yr, .int .i64 yc, .slice A2 n2 k2]) rfl rfl ?_; clear hF; intro w3 b3 hF)) | (refine T.is ?_; first | refine T.seq ?_ | refine T.region ?_ | refine T.cond_t rfl ?_ | refine T.ret ?_) | (refine G.is ?_; first | refine G.next ?_ | refine G.thenR ?_) | refine TL.nil ?_)
    exact G.ret1 rfl rfl ⟨rfl, hF.ext⟩
theorem Sound.snd {x : MV} {r c : Nat} (h : Sound x r c) : Snd x := ⟨r, c, h⟩
set_option maxRecDepth 100000 in
theorem radd_okM (w : World) (x y : MV) (r c Kx Ky : Nat) (gx : GM w.heap x r c Kx) (gy : GM w.heap y r c Ky) (hKx : Kx ≤ 1048576000) (hKy : Ky ≤ 1048576000) :
    Cl Tryz.prog 29 #[.agg (mvc x).toArray, .agg (mvc y).toArray] w (RetME w r c (fun i j => ent x c i j + ent y c i j) (max Kx Ky + 1)) := by
  have hbo := fun w => rboth_ok w x y gx.sh.snd gy.sh.snd
  have hsx := gx.s
  have hsy := gy.s
  have ggx := gx.g
  have ggy := gy.g
  have s1 := gx.sh
  have s2 := gy.sh
  clear gx gy
  obtain ⟨xr, xc, A, n, k, l⟩ := x
  obtain ⟨yr, yc, A2, n2, k2, l2⟩ := y
  obtain ⟨hr1, hc1, hr, hcc, hn1⟩ := s1
  obtain ⟨hr2, hc2, _, _, hn2⟩ := s2
  dsimp only at hr1 hc1 hn1 hr2 hc2 hn2 hsx hsy ggx ggy
  subst hr1 hc1 hn1 hr2 hc2 hn2
  have hm := mul64 hr hcc
  have hlx := hsx.len
  have hly := hsy.len
  refine enter Tryz.func29 rfl rfl rfl ?_
  have hF := Fr.refl w
  repeat' (first | (refine TL.isOp ?_; first | (refine TL.isG ?_; first | refine TL.grun rfl rfl rfl ?_) | (refine TL.isCall ?_; refine TL.call rfl rfl ?_; first | (refine (hbo _).mono ?_; rintro _ wy ⟨rfl, hE⟩; replace hF := hF.exts hE; clear hE; refine Back.mk ?_) | (refine (blank_ok _ r c hr hcc).mono ?_; rintro _ wb ⟨b, rfl, hB⟩; replace hF := Fr.blank hF hB; clear hB; refine Back.mk ?_)) | (refine TL.isBin ?_; refine TL.cmpG rfl rfl rfl rfl (fun hc => ?_) (fun hc => ?_) <;> (try (first | (exfalso; omega) | exact absurd rfl hc))) | (apply TL.ev; (case hd => rfl); (case h => (first | exact ev_simple rfl | (apply Ev.isLoad; first | exact ev_loadFr hF rfl (by refine ⟨?_, ?_⟩; (focus (repeat (first | exact InV.head | apply InV.tail))); rfl) | exact ev_loadAFr hF rfl (by refine ⟨?_, ?_⟩; (focus (repeat (first | exact InV.head | apply InV.tail))); rfl)) | exact ev_fieldAddr rfl))) | (refine TL.storeAFr hF rfl rfl rfl rfl (by refine ⟨?_, ?_⟩; (focus (repeat (first | apply SetV.head | apply SetV.tail))); rfl) rfl ?_; clear hF; intro ws hF) | (refine TL.boxAFr hF (d := 2) (cs := [.int .i64 (r : Int), .int .i64 (c : Int), .slice A (r * c) k]) rfl rfl ?_; clear hF; intro w2 b2 hF) | (refine TL.boxAFr hF (d := 3) (cs := [.int .i64 (r : Int), .int .i64 (c : Int), .slice A2 (r * c) k2]) rfl rfl ?_; clear hF; intro w3 b3 hF) | (refine TL.allocFr hF (d := 4) rfl rfl ?_; clear hF; intro w4 b4 hF) | (refine TL.allocFr hF (d := 7) rfl rfl ?_; clear hF; intro w7 b7 hF)) | (refine T.is ?_; first | refine T.seq ?_ | refine T.region ?_ | refine T.block ?_ | refine T.cond_f rfl ?_ | refine T.skip ?_) | (refine G.is ?_; first | refine G.next ?_) | refine TL.nil ?_)
  refine T.loop (α := Nat × List IV) (fun x => [(2, .pointer (some ⟨b2, 0, none⟩)), (3, .pointer (some ⟨b3, 0, none⟩)), (4, .pointer (some ⟨b4, 0, none⟩)), (7, .pointer (some ⟨b7, 0, none⟩)), (8, .int .i64 (x.1 : Int))])
    (fun x w' => x.1 ≤ r * c ∧ x.2.length = r * c ∧ Fr w w' [⟨b, 30, x.2.flatMap ivc⟩, ⟨b7, 27, [.int .i64 (r : Int), .int .i64 (c : Int), .slice (some ⟨b, 0, none⟩) (r * c) (r * c)]⟩, ⟨b4, 27, [.int .i64 0, .int .i64 0, .slice none 0 0]⟩, ⟨b3, 27, [.int .i64 (r : Int), .int .i64 (c : Int), .slice A2 (r * c) k2]⟩, ⟨b2, 27, [.int .i64 (r : Int), .int .i64 (c : Int), .slice A (r * c) k]⟩] [dpLK (r * c) x.2 (upZ x.1 (fun q => ival (l.getD q default) + ival (l2.getD q default))) (max Kx Ky + 1)])
    (fun x => r * c - x.1) (0, List.replicate (r * c) nought) (by repeat (first | exact Sub.nil _ | refine Sub.cons rfl ?_ | refine Sub.cons' rfl (int_congr (by omega)) ?_)) ⟨Nat.zero_le _, List.length_replicate .., Fr.addLK hF.swap ((lk_zeros _ _ _).congrN fun q _ => rfl)⟩ ?_
  clear hF
  rintro ⟨i, zl⟩ w2 ⟨hi, hzl, hF⟩
  dsimp only at hi hzl hF ⊢
  rcases Nat.lt_or_ge i (r * c) with hin | hin
  · have hy1 : l[i]? = some (l.getD i default) := by simp [List.getD, show i < l.length by omega]
    have hy2 : l2[i]? = some (l2.getD i default) := by simp [List.getD, show i < l2.length by omega]
    obtain ⟨g1, n1⟩ := ggx _ (List.mem_of_getElem? hy1)
    obtain ⟨g2, n2⟩ := ggy _ (List.mem_of_getElem? hy2)
    obtain ⟨y1, ey1⟩ : ∃ y, l.getD i default = y := ⟨_, rfl⟩
    obtain ⟨y2, ey2⟩ : ∃ y, l2.getD i default = y := ⟨_, rfl⟩
    rw [ey1] at hy1 g1 n1
    rw [ey2] at hy2 g2 n2
    repeat' (first | (refine TL.isOp ?_; first | (refine TL.isCall ?_; refine TL.call rfl rfl ?_; first | (refine (r5add_ok _ y1 y2 (g1.ext hF.ext) (g2.ext hF.ext) (by omega) (by omega)).mono ?_; rintro _ wl ⟨u, rfl, hLu, hE, hKu⟩; replace hF := Fr.addLI (hF.exts hE) hLu; clear hE hLu; refine Back.mk ?_)) | (refine TL.isBin ?_; refine TL.cmpG rfl rfl rfl rfl (fun hc => ?_) (fun hc => ?_) <;> (try (first | (exfalso; omega) | exact absurd rfl hc))) | (apply TL.ev; (case hd => rfl); (case h => (first | exact ev_simple rfl | (apply Ev.isBin; first | exact ev_arN rfl rfl rfl (by omega)) | (apply Ev.isLoad; first | exact ev_loadFr hF rfl (by refine ⟨?_, ?_⟩; (focus (repeat (first | exact InV.head | apply InV.tail))); rfl)) | exact ev_len rfl | exact ev_fieldAddr rfl))) | (refine TL.storeAtFr hF (f := ivc) u rfl rfl rfl rfl (fun _ => rfl) (by rw [hzl]; exact hin) (ivc_noV zl) (by repeat (first | apply SetV.head | apply SetV.tail)) ?_; clear hF; intro ws hF)) | (refine TF.is ?_; first | refine TF.nil ?_ | refine TF.e rfl ?_ | (refine TF.pick rfl ?_; first | (apply TFo.ev; (case hd => rfl); (case h => (intro wh hF; first | exact ev_simple rfl | (apply Ev.isLoad; first | exact ev_loadFr hF rfl (by refine ⟨?_, ?_⟩; (focus (repeat (first | exact InV.head | apply InV.tail))); rfl) | exact ev_loadM rfl (hsx.ext hF.ext) hy1 | exact ev_loadM rfl (hsy.ext hF.ext) hy2) | exact ev_fieldAddr rfl | exact ev_indexM rfl rfl hin (hsx.ext hF.ext).some | exact ev_indexM rfl rfl hin (hsy.ext hF.ext).some | exact ev_indexM rfl rfl hin (.inr rfl)))))) | (refine T.is ?_; first | refine T.seq ?_ | refine T.region ?_ | refine T.block ?_ | refine T.cond_t rfl ?_ | refine T.skip ?_ | (refine T.regionFr hF 10 15 (.s 0 (.s 1 (.s 2 (.s 3 (.s 4 (.s 5 (.s 6 (.s 7 (.s 8 (.s 9 (.s 10 (.s 11 (.s 12 (.e 13 (.s 14 (.e 15 .nil)))))))))))))))) mixed (by kernel_rfl) ?_; clear hF; intro wr hF)) | (refine G.is ?_; first | refine G.next ?_ | refine G.blockN ?_ | refine G.only ?_ | refine G.treeEnd rfl ?_ | refine G.tree rfl (by first | exact hF | exact hF.weak (by repeat (first | exact List.Sublist.refl _ | apply List.Sublist.cons)) (by repeat (first | exact allR | apply allT)) | exact hF.weak (by repeat (first | exact List.Sublist.refl _ | apply List.Sublist.cons)) (by repeat (first | exact allN | refine allH (by repeat (first | exact memH | apply memT)) ?_))) ?_) | refine TL.nil ?_)
    have hk := (Fr.lk hF (i := r * c) (l := zl) (by repeat (first | exact memH | apply memT))).setAtN (Z' := upZ (i + 1) (fun q => ival (l.getD q default) + ival (l2.getD q default))) (u := u) (q := i) (by omega) (by rw [upZ_succ, ey1, ey2]; exact Fr.li hF (by repeat (first | exact memH | apply memT))) (by omega) (fun p hp => upZ_ne hp)
    exact G.again (i + 1, zl.set i u) (by repeat (first | exact Sub.nil _ | refine Sub.cons rfl ?_ | refine Sub.cons' rfl (int_congr (by omega)) ?_)) ⟨by dsimp only; omega, by rw [List.length_set]; exact hzl, Fr.addLK (hF.weak (List.Sublist.refl _) allN) hk⟩ (by dsimp only; omega)
  · obtain rfl : i = r * c := by omega
    repeat' (first | (refine TL.isOp ?_; first | (refine TL.isBin ?_; refine TL.cmpG rfl rfl rfl rfl (fun hc => ?_) (fun hc => ?_) <;> (try (first | (exfalso; omega) | exact absurd rfl hc))) | (apply TL.ev; (case hd => rfl); (case h => (first | exact ev_simple rfl | (apply Ev.isLoad; first | exact ev_loadFr hF rfl (by refine ⟨?_, ?_⟩; (focus (repeat (first | exact InV.head | apply InV.tail))); rfl) | exact ev_loadAFr hF rfl (by refine ⟨?_, ?_⟩; (focus (repeat (first | exact InV.head | apply InV.tail))); rfl)) | exact ev_len rfl | exact ev_fieldAddr rfl))) | (refine TL.storeAFr hF rfl rfl rfl rfl (by refine ⟨?_, ?_⟩; (focus (repeat (first | apply SetV.head | apply SetV.tail))); rfl) rfl ?_; clear hF; intro ws hF)) | (refine T.is ?_; first | refine T.seq ?_ | refine T.region ?_ | refine T.cond_f rfl ?_ | refine T.exit ?_ | refine T.ret ?_) | (refine G.is ?_; first | refine G.next ?_ | refine G.blockE ?_ | refine G.thenE ?_) | refine TL.nil ?_)
    have hb := (hF.lo (b := b) (by repeat (first | exact InV.head | apply InV.tail))).resolve_right id
    exact G.retC2 rfl rfl rfl (held_agg (hF.var (by repeat (first | exact InV.head | apply InV.tail))) rfl) ⟨⟨r, c, some ⟨b, 0, none⟩, r * c, r * c, zl⟩, rfl, lm_of (hF.var (by repeat (first | exact InV.head | apply InV.tail))) hzl hr hcc (Fr.lk hF (by repeat (first | exact memH | apply memT))) (fun a q ha hq => upZ_end (place_lt ha hq)), hF.ext, .inr ⟨b, rfl, hb⟩⟩
theorem raddM_unfit (w : World) (x y : MV) (r c r' c' : Nat) (gx : Sound x r c) (gy : Sound y r' c') (hne : ¬ (r = r' ∧ c = c')) : Cl Tryz.prog 29 #[.agg (mvc x).toArray, .agg (mvc y).toArray] w (RetMF w 2) := by
  have hbo := fun w => rboth_ok w x y gx.snd gy.snd
  obtain ⟨xr, xc, A, n, k, l⟩ := x
  obtain ⟨yr, yc, A2, n2, k2, l2⟩ := y
  have e1 := gx.er
  have e2 := gx.ec
  have e3 := gy.er
  have e4 := gy.ec
  dsimp only at e1 e2 e3 e4
  subst e1 e2 e3 e4
  clear gx gy
  refine enter Tryz.func29 rfl rfl rfl ?_
  have hF := Fr.refl w
  repeat' (first | (refine TL.isOp ?_; first | (refine TL.isG ?_; first | refine TL.grun rfl rfl rfl ?_ | refine TL.gskip rfl rfl rfl rfl ?_) | (refine TL.isCall ?_; refine TL.call rfl rfl ?_; first | (refine (hbo _).mono ?_; rintro _ wy ⟨rfl, hE⟩; replace hF := hF.exts hE; clear hE; refine Back.mk ?_)) | (refine TL.isBin ?_; refine TL.cmpG rfl rfl rfl rfl (fun hc => ?_) (fun hc => ?_) <;> (try (first | (exfalso; omega) | exact absurd rfl hc))) | (apply TL.ev; (case hd => rfl); (case h => (first | exact ev_simple rfl | (apply Ev.isLoad; first | exact ev_loadFr hF rfl (by refine ⟨?_, ?_⟩; (focus (repeat (first | exact InV.head | apply InV.tail))); rfl) | exact ev_loadAFr hF rfl (by refine ⟨?_, ?_⟩; (focus (repeat (first | exact InV.head | apply InV.tail))); rfl)) | exact ev_fieldAddr rfl | exact ev_buildX rfl rfl))) | (refine TL.storeAFr hF rfl rfl rfl rfl (by refine ⟨?_, ?_⟩; (focus (repeat (first | apply SetV.head | apply SetV.tail))); rfl) rfl ?_; clear hF; intro ws hF) | (refine TL.boxAFr hF (d := 2) (cs := [.int .i64 (r : Int), .int .i64 (c : Int), .slice A n k]) rfl rfl ?_; clear hF; intro w2 b2 hF) | (refine TL.boxAFr hF (d := 3) (cs := [.int .i64 (r' : Int), .int .i64 (c' : Int), .slice A2 n2 k2]) rfl rfl ?_; clear hF; intro w3 b3 hF) | (refine TL.allocFr hF (d := 4) rfl rfl ?_; clear hF; intro w4 b4 hF)) | (refine T.is ?_; first | refine T.seq ?_ | refine T.region ?_ | refine T.cond_t rfl ?_ | refine T.cond_f rfl ?_ | refine T.ret ?_ | refine T.skip ?_) | (refine G.is ?_; first | refine G.next ?_ | refine G.thenR ?_) | refine TL.nil ?_)
  all_goals exact G.retC2 rfl rfl rfl (held_agg (hF.var (by repeat (first | exact InV.head | apply InV.tail))) rfl) ⟨rfl, hF.ext⟩
theorem raddM_bad (w : World) (x y : MV) (h : ¬ (Snd x ∧ Snd y)) : Cl Tryz.prog 29 #[.agg (mvc x).toArray, .agg (mvc y).toArray] w (RetMF w 1) := by
  have hbo := fun w => rboth_bad w x y h
  clear h
  obtain ⟨xr, xc, A, n, k, l⟩ := x
  obtain ⟨yr, yc, A2, n2, k2, l2⟩ := y
  refine enter Tryz.func29 rfl rfl rfl ?_
  have hF := Fr.refl w
  repeat' (first | (refine TL.isOp ?_; first | (refine TL.isCall ?_; refine TL.call rfl rfl ?_; first | (refine (hbo _).mono ?_; rintro _ wy ⟨rfl, hE⟩; replace hF := hF.exts hE; clear hE; refine Back.mk ?_)) | (refine TL.isBin ?_; refine TL.cmpG rfl rfl rfl rfl (fun hc => ?_) (fun hc => ?_) <;> (try (first | (exfalso; omega) | exact absurd rfl hc))) | (apply TL.ev; (case hd => rfl); (case h => (first | exact ev_simple rfl | (apply Ev.isLoad; first | exact ev_loadAFr hF rfl (by refine ⟨?_, ?_⟩; (focus (repeat (first | exact InV.head | apply InV.tail))); rfl)) | exact ev_buildX rfl rfl))) | (refine TL.storeAFr hF rfl rfl rfl rfl (by refine ⟨?_, ?_⟩; (focus (repeat (first | apply SetV.head | apply SetV.tail))); rfl) rfl ?_; clear hF; intro ws hF) | (refine TL.boxAFr hF (d := 2) (cs := [.int .i64 xr, .int .i64 xc, .slice A n k]) rfl rfl ?_; clear hF; intro w2 b2 hF) | (refine TL.boxAFr hF (d := 3) (cs := [.int .i64 yr, .int .i64 yc, .slice A2 n2 k2]) rfl rfl ?_; clear hF; intro w3 b3 hF) | (refine TL.allocFr hF (d := 4) rfl rfl ?_; clear hF; intro w4 b4 hF)) | (refine T.is ?_; first | refine T.seq ?_ | refine T.region ?_ | refine T.cond_t rfl ?_ | refine T.ret ?_) | (refine G.is ?_; first | refine G.next ?_ | refine G.thenR ?_) | refine TL.nil ?_)
  exact G.retC2 rfl rfl rfl (held_agg (hF.var (by repeat (first | exact InV.head | apply InV.tail))) rfl) ⟨rfl, hF.ext⟩
set_option maxRecDepth 100000 in
theorem rscale_ok (w : World) (z : IV) (x : MV) (r c Kz K : Nat) (gz : GI w.heap z) (hzn : z.m.n ≤ Kz) (gx : GM w.heap x r c K) (hKz : Kz ≤ 536870912) (hK : K ≤ 536870912) :
    Cl Tryz.prog 31 #[.agg (ivc z).toArray, .agg (mvc x).toArray] w (RetME w r c (fun i j => ival z * ent x c i j) (Kz + K)) := by
  have hck := fun w => rchkE_ok w x r c gx.sh
  have hsx := gx.s
  have ggx := gx.g
  have s1 := gx.sh
  clear gx
  obtain ⟨xr, xc, A, n, k, l⟩ := x
  obtain ⟨zn, ⟨zA, zm, zc, zl0⟩⟩ := z
  obtain ⟨hr1, hc1, hr, hcc, hn1⟩ := s1
  dsimp only at hr1 hc1 hn1 hsx ggx hzn
  subst hr1 hc1 hn1
  have hm := mul64 hr hcc
  have hlx := hsx.len
  obtain ⟨zv, hzv⟩ : ∃ v, ival ⟨zn, ⟨zA, zm, zc, zl0⟩⟩ = v := ⟨_, rfl⟩
  rw [hzv]
  refine enter Tryz.func31 rfl rfl rfl ?_
  have hF := Fr.refl w
  repeat' (first | (refine TL.isOp ?_; first | (refine TL.isCall ?_; refine TL.call rfl rfl ?_; first | (refine (hck _).mono ?_; rintro _ wy ⟨rfl, hE⟩; replace hF := hF.exts hE; clear hE; refine Back.mk ?_) | (refine (blank_ok _ r c hr hcc).mono ?_; rintro _ wb ⟨b, rfl, hB⟩; replace hF := Fr.blank hF hB; clear hB; refine Back.mk ?_)) | (refine TL.isBin ?_; refine TL.cmpG rfl rfl rfl rfl (fun hc => ?_) (fun hc => ?_) <;> (try (first | (exfalso; omega) | exact absurd rfl hc))) | (apply TL.ev; (case hd => rfl); (case h => (first | exact ev_simple rfl | (apply Ev.isLoad; first | exact ev_loadFr hF rfl (by refine ⟨?_, ?_⟩; (focus (repeat (first | exact InV.head | apply InV.tail))); rfl) | exact ev_loadAFr hF rfl (by refine ⟨?_, ?_⟩; (focus (repeat (first | exact InV.head | apply InV.tail))); rfl)) | exact ev_fieldAddr rfl))) | (refine TL.storeAFr hF rfl rfl rfl rfl (by refine ⟨?_, ?_⟩; (focus (repeat (first | apply SetV.head | apply SetV.tail))); rfl) rfl ?_; clear hF; intro ws hF) | (refine TL.boxAFr hF (d := 2) (cs := [.bool zn, .slice zA zm zc]) rfl rfl ?_; clear hF; intro w2 b2 hF) | (refine TL.boxAFr hF (d := 3) (cs := [.int .i64 (r : Int), .int .i64 (c : Int), .slice A (r * c) k]) rfl rfl ?_; clear hF; intro w3 b3 hF) | (refine TL.allocFr hF (d := 4) rfl rfl ?_; clear hF; intro w4 b4 hF) | (refine TL.allocFr hF (d := 7) rfl rfl ?_; clear hF; intro w7 b7 hF)) | (refine T.is ?_; first | refine T.seq ?_ | refine T.region ?_ | refine T.block ?_ | refine T.cond_f rfl ?_ | refine T.skip ?_) | (refine G.is ?_; first | refine G.next ?_) | refine TL.nil ?_)
  refine T.loop (α := Nat × List IV) (fun x => [(2, .pointer (some ⟨b2, 0, none⟩)), (3, .pointer (some ⟨b3, 0, none⟩)), (4, .pointer (some ⟨b4, 0, none⟩)), (7, .pointer (some ⟨b7, 0, none⟩)), (8, .int .i64 (x.1 : Int))])
    (fun x w' => x.1 ≤ r * c ∧ x.2.length = r * c ∧ Fr w w' [⟨b, 30, x.2.flatMap ivc⟩, ⟨b7, 27, [.int .i64 (r : Int), .int .i64 (c : Int), .slice (some ⟨b, 0, none⟩) (r * c) (r * c)]⟩, ⟨b4, 27, [.int .i64 0, .int .i64 0, .slice none 0 0]⟩, ⟨b3, 27, [.int .i64 (r : Int), .int .i64 (c : Int), .slice A (r * c) k]⟩, ⟨b2, 30, [.bool zn, .slice zA zm zc]⟩] [dpLK (r * c) x.2 (upZ x.1 (fun q => zv * ival (l.getD q default))) (Kz + K)])
    (fun x => r * c - x.1) (0, List.replicate (r * c) nought) (by repeat (first | exact Sub.nil _ | refine Sub.cons rfl ?_ | refine Sub.cons' rfl (int_congr (by omega)) ?_)) ⟨Nat.zero_le _, List.length_replicate .., Fr.addLK hF.swap ((lk_zeros _ _ _).congrN fun q _ => rfl)⟩ ?_
  clear hF
  rintro ⟨i, zl⟩ w2 ⟨hi, hzl, hF⟩
  dsimp only at hi hzl hF ⊢
  rcases Nat.lt_or_ge i (r * c) with hin | hin
  · have hy1 : l[i]? = some (l.getD i default) := by simp [List.getD, show i < l.length by omega]
    obtain ⟨g1, n1⟩ := ggx _ (List.mem_of_getElem? hy1)
    obtain ⟨y1, ey1⟩ : ∃ y, l.getD i default = y := ⟨_, rfl⟩
    rw [ey1] at hy1 g1 n1
    repeat' (first | (refine TL.isOp ?_; first | (refine TL.isCall ?_; refine TL.call rfl rfl ?_; first | (refine (r5mul_ok _ ⟨zn, ⟨zA, zm, zc, zl0⟩⟩ y1 (gz.ext hF.ext) (g1.ext hF.ext) (by dsimp only; omega) (by omega)).mono ?_; rintro _ wl ⟨u, rfl, hLu, hE, hKu⟩; dsimp only at hKu; rw [hzv] at hLu; replace hF := Fr.addLI (hF.exts hE) hLu; clear hE hLu; refine Back.mk ?_)) | (refine TL.isBin ?_; refine TL.cmpG rfl rfl rfl rfl (fun hc => ?_) (fun hc => ?_) <;> (try (first | (exfalso; omega) | exact absurd rfl hc))) | (apply TL.ev; (case hd => rfl); (case h => (first | exact ev_simple rfl | (apply Ev.isBin; first | exact ev_arN rfl rfl rfl (by omega)) | (apply Ev.isLoad; first | exact ev_loadFr hF rfl (by refine ⟨?_, ?_⟩; (focus (repeat (first | exact InV.head | apply InV.tail))); rfl)) | exact ev_len rfl | exact ev_fieldAddr rfl))) | (refine TL.storeAtFr hF (f := ivc) u rfl rfl rfl rfl (fun _ => rfl) (by rw [hzl]; exact hin) (ivc_noV zl) (by repeat (first | apply SetV.head | apply SetV.tail)) ?_; clear hF; intro ws hF)) | (refine TF.is ?_; first | refine TF.nil ?_ | refine TF.e rfl ?_ | (refine TF.pick rfl ?_; first | (apply TFo.ev; (case hd => rfl); (case h => (intro wh hF; first | exact ev_simple rfl | (apply Ev.isLoad; first | exact ev_loadFr hF rfl (by refine ⟨?_, ?_⟩; (focus (repeat (first | exact InV.head | apply InV.tail))); rfl) | exact ev_loadAFr hF rfl (by refine ⟨?_, ?_⟩; (focus (repeat (first | exact InV.head | apply InV.tail))); rfl) | exact ev_loadM rfl (hsx.ext hF.ext) hy1) | exact ev_fieldAddr rfl | exact ev_indexM rfl rfl hin (hsx.ext hF.ext).some | exact ev_indexM rfl rfl hin (.inr rfl)))))) | (refine T.is ?_; first | refine T.seq ?_ | refine T.region ?_ | refine T.block ?_ | refine T.cond_t rfl ?_ | refine T.skip ?_ | (refine T.regionFr hF 8 11 (.s 0 (.s 1 (.s 2 (.s 3 (.s 4 (.s 5 (.s 6 (.s 7 (.s 8 (.e 9 (.s 10 (.e 11 .nil)))))))))))) mixed (by kernel_rfl) ?_; clear hF; intro wr hF)) | (refine G.is ?_; first | refine G.next ?_ | refine G.blockN ?_ | refine G.only ?_ | refine G.treeEnd rfl ?_ | refine G.tree rfl (by first | exact hF | exact hF.weak (by repeat (first | exact List.Sublist.refl _ | apply List.Sublist.cons)) (by repeat (first | exact allR | apply allT)) | exact hF.weak (by repeat (first | exact List.Sublist.refl _ | apply List.Sublist.cons)) (by repeat (first | exact allN | refine allH (by repeat (first | exact memH | apply memT)) ?_))) ?_) | refine TL.nil ?_)
    have hk := (Fr.lk hF (i := r * c) (l := zl) (by repeat (first | exact memH | apply memT))).setAtN (Z' := upZ (i + 1) (fun q => zv * ival (l.getD q default))) (u := u) (q := i) (by omega) (by rw [upZ_succ, ey1]; exact Fr.li hF (by repeat (first | exact memH | apply memT))) (by omega) (fun p hp => upZ_ne hp)
    exact G.again (i + 1, zl.set i u) (by repeat (first | exact Sub.nil _ | refine Sub.cons rfl ?_ | refine Sub.cons' rfl (int_congr (by omega)) ?_)) ⟨by dsimp only; omega, by rw [List.length_set]; exact hzl, Fr.addLK (hF.weak (List.Sublist.refl _) allN) hk⟩ (by dsimp only; omega)
  · obtain rfl : i = r * c := by omega
    repeat' (first | (refine TL.isOp ?_; first | (refine TL.isBin ?_; refine TL.cmpG rfl rfl rfl rfl (fun hc => ?_) (fun hc => ?_) <;> (try (first | (exfalso; omega) | exact absurd rfl hc))) | (apply TL.ev; (case hd => rfl); (case h => (first | exact ev_simple rfl | (apply Ev.isLoad; first | exact ev_loadFr hF rfl (by refine ⟨?_, ?_⟩; (focus (repeat (first | exact InV.head | apply InV.tail))); rfl) | exact ev_loadAFr hF rfl (by refine ⟨?_, ?_⟩; (focus (repeat (first | exact InV.head | apply InV.tail))); rfl)) | exact ev_len rfl | exact ev_fieldAddr rfl))) | (refine TL.storeAFr hF rfl rfl rfl rfl (by refine ⟨?_, ?_⟩; (focus (repeat (first | apply SetV.head | apply SetV.tail))); rfl) rfl ?_; clear hF; intro ws hF)) | (refine T.is ?_; first | refine T.seq ?_ | refine T.region ?_ | refine T.cond_f rfl ?_ | refine T.exit ?_ | refine T.ret ?_) | (refine G.is ?_; first | refine G.next ?_ | refine G.blockE ?_ | refine G.thenE ?_) | refine TL.nil ?_)
    have hb := (hF.lo (b := b) (by repeat (first | exact InV.head | apply InV.tail))).resolve_right id
    exact G.retC2 rfl rfl rfl (held_agg (hF.var (by repeat (first | exact InV.head | apply InV.tail))) rfl) ⟨⟨r, c, some ⟨b, 0, none⟩, r * c, r * c, zl⟩, rfl, lm_of (hF.var (by repeat (first | exact InV.head | apply InV.tail))) hzl hr hcc (Fr.lk hF (by repeat (first | exact memH | apply memT))) (fun a q ha hq => upZ_end (place_lt ha hq)), hF.ext, .inr ⟨b, rfl, hb⟩⟩
theorem rscale_bad (w : World) (z : IV) (x : MV) (h : ¬ Snd x) : Cl Tryz.prog 31 #[.agg (ivc z).toArray, .agg (mvc x).toArray] w (RetMF w 1) := by
  have hck := fun w => rchk_any w x (.inr ⟨h, rfl⟩)
  clear h
  obtain ⟨xr, xc, A, n, k, l⟩ := x
  obtain ⟨zn, ⟨zA, zm, zc, zl0⟩⟩ := z
  refine enter Tryz.func31 rfl rfl rfl ?_
  have hF := Fr.refl w
  repeat' (first | (refine TL.isOp ?_; first | (refine TL.isCall ?_; refine TL.call rfl rfl ?_; first | (refine (hck _).mono ?_; rintro _ wy ⟨rfl, hE⟩; replace hF := hF.exts hE; clear hE; refine Back.mk ?_)) | (refine TL.isBin ?_; refine TL.cmpG rfl rfl rfl rfl (fun hc => ?_) (fun hc => ?_) <;> (try (first | (exfalso; omega) | exact absurd rfl hc))) | (apply TL.ev; (case hd => rfl); (case h => (first | exact ev_simple rfl | (apply Ev.isLoad; first | exact ev_loadAFr hF rfl (by refine ⟨?_, ?_⟩; (focus (repeat (first | exact InV.head | apply InV.tail))); rfl)) | exact ev_buildX rfl rfl))) | (refine TL.storeAFr hF rfl rfl rfl rfl (by refine ⟨?_, ?_⟩; (focus (repeat (first | apply SetV.head | apply SetV.tail))); rfl) rfl ?_; clear hF; intro ws hF) | (refine TL.boxAFr hF (d := 2) (cs := [.bool zn, .slice zA zm zc]) rfl rfl ?_; clear hF; intro w2 b2 hF) | (refine TL.boxAFr hF (d := 3) (cs := [.int .i64 xr, .int .i64 xc, .slice A n k]) rfl rfl ?_; clear hF; intro w3 b3 hF) | (refine TL.allocFr hF (d := 4) rfl rfl ?_; clear hF; intro w4 b4 hF)) | (refine T.is ?_; first | refine T.seq ?_ | refine T.region ?_ | refine T.cond_t rfl ?_ | refine T.ret ?_) | (refine G.is ?_; first | refine G.next ?_ | refine G.thenR ?_) | refine TL.nil ?_)
  exact G.retC2 rfl rfl rfl (held_agg (hF.var (by repeat (first | exact InV.head | apply InV.tail))) rfl) ⟨rfl, hF.ext⟩
def mone (b : Nat) : IV := ⟨true, ⟨some ⟨b, 0, none⟩, 1, 1, [1]⟩⟩
theorem mone_val (b : Nat) : ival (mone b) = -1 := by simp [mone, ival, sgn, val]
set_option maxRecDepth 100000 in
theorem rsub_okM (w : World) (x y : MV) (r c Kx Ky : Nat) (gx : GM w.heap x r c Kx) (gy : GM w.heap y r c Ky) (hKx : Kx ≤ 536870000) (hKy : Ky ≤ 536870000) :
    Cl Tryz.prog 30 #[.agg (mvc x).toArray, .agg (mvc y).toArray] w (RetME w r c (fun i j => ent x c i j - ent y c i j) (max Kx (1 + Ky) + 1)) := by
  have hsc := fun w1 (hE : Ext w w1) b (hb : Sl u64v w1.heap w1.heap.size (some ⟨b, 0, none⟩) 1 1 [1]) => rscale_ok w1 (mone b) y r c 1 Ky ⟨hb, U64.one (by omega)⟩ (Nat.le_refl _) (gy.ext hE) (by omega) (by omega)
  have hae := fun (z : MV) (i j : Nat) (hz : ent z c i j = -1 * ent y c i j) => (show ent x c i j + ent z c i j = ent x c i j - ent y c i j by rw [hz]; omega)
  simp only [mone_val] at hsc
  have had := fun w1 (hE : Ext w w1) z (gz : GM w1.heap z r c (1 + Ky)) => radd_okM w1 x z r c Kx (1 + Ky) (gx.ext hE) gz (by omega) (by omega)
  clear gx gy
  generalize ent x c = F at *
  generalize ent y c = F2 at *
  obtain ⟨xr, xc, A, n, k, l⟩ := x
  obtain ⟨yr, yc, A2, n2, k2, l2⟩ := y
  refine enter Tryz.func30 rfl rfl rfl ?_
  have hF := Fr.refl w
  repeat' (first | (refine TL.isOp ?_; first | (refine TL.isCall ?_; refine TL.call rfl rfl ?_; first | (refine (hsc _ hF.ext bn (Fr.sl hF (by repeat (first | exact memH | apply memT)))).mono ?_; rintro _ wz ⟨⟨zr, zc, zA, zn, zk, zl⟩, rfl, hLz, hE, hf⟩; replace hF := Fr.addLM hF hE hLz hf; clear hE hf hLz; refine Back.mk ?_) | (refine (had _ hF.ext ⟨zr, zc, zA, zn, zk, zl⟩ (Fr.lm hF (by repeat (first | exact memH | apply memT))).gm).mono ?_; rintro _ wz ⟨⟨ur, uc, uA, un, uk, ul⟩, rfl, hLu, hE, hf⟩; replace hLu := hLu.congr fun i j hi hj => hae ⟨zr, zc, zA, zn, zk, zl⟩ i j ((Fr.lm hF (x := ⟨zr, zc, zA, zn, zk, zl⟩) (by repeat (first | exact memH | apply memT))).ent hi hj); have hfz := hf.mono hF.ext.size; replace hF := Fr.addLM hF hE hLu hf; clear hE hf hLu; refine Back.mk ?_)) | (refine TL.isBin ?_; refine TL.cmpG rfl rfl rfl rfl (fun hc => ?_) (fun hc => ?_) <;> (try (first | (exfalso; omega) | exact absurd rfl hc))) | (apply TL.ev; (case hd => rfl); (case h => (first | exact ev_simple rfl | (apply Ev.isLoad; first | exact ev_loadAFr hF rfl (by refine ⟨?_, ?_⟩; (focus (repeat (first | exact InV.head | apply InV.tail))); rfl)) | exact ev_buildX rfl rfl))) | (refine TL.storeAFr hF rfl rfl rfl rfl (by refine ⟨?_, ?_⟩; (focus (repeat (first | apply SetV.head | apply SetV.tail))); rfl) rfl ?_; clear hF; intro ws hF) | (refine TL.boxAFr hF (d := 2) (cs := [.int .i64 xr, .int .i64 xc, .slice A n k]) rfl rfl ?_; clear hF; intro w2 b2 hF) | (refine TL.boxAFr hF (d := 3) (cs := [.int .i64 yr, .int .i64 yc, .slice A2 n2 k2]) rfl rfl ?_; clear hF; intro w3 b3 hF) | (refine TL.allocFr hF (d := 4) rfl rfl ?_; clear hF; intro w4 b4 hF) | (refine TL.allocFr hF (d := 6) rfl rfl ?_; clear hF; intro w6 b6 hF) | (refine TL.build1U rfl rfl (fun wn bn ebn hBn hEn hzn => ?_); replace hF := Fr.addSl (hF.exts hEn) (hBn.slN (n := 1) (c := 1) rfl (Nat.le_refl _) hBn.lt); clear ebn hBn hEn hzn)) | (refine T.is ?_; first | refine T.seq ?_ | refine T.region ?_ | refine T.cond_f rfl ?_ | refine T.ret ?_ | refine T.skip ?_) | (refine G.is ?_; first | refine G.next ?_) | refine TL.nil ?_)
  exact G.retC2 rfl rfl rfl (held_agg (hF.var (by repeat (first | exact InV.head | apply InV.tail))) rfl) ⟨⟨ur, uc, uA, un, uk, ul⟩, rfl, Fr.lm hF (x := ⟨ur, uc, uA, un, uk, ul⟩) (by repeat (first | exact memH | apply memT)), hF.ext, hfz⟩
set_option maxRecDepth 100000 in
theorem rsubM_no (w : World) (x y : MV) (r' c' Ky : Nat) (gy : GM w.heap y r' c' Ky) (hKy : Ky ≤ 536870000) (z : Int) (had : ∀ w1 u, Ext w w1 → Sound u r' c' → Cl Tryz.prog 29 #[.agg (mvc x).toArray, .agg (mvc u).toArray] w1 (RetMF w1 z)) :
    Cl Tryz.prog 30 #[.agg (mvc x).toArray, .agg (mvc y).toArray] w (RetMF w z) := by
  have hsc := fun w1 (hE : Ext w w1) b (hb : Sl u64v w1.heap w1.heap.size (some ⟨b, 0, none⟩) 1 1 [1]) => rscale_ok w1 (mone b) y r' c' 1 Ky ⟨hb, U64.one (by omega)⟩ (Nat.le_refl _) (gy.ext hE) (by omega) (by omega)
  clear gy
  generalize ent y c' = F2 at *
  obtain ⟨xr, xc, A, n, k, l⟩ := x
  obtain ⟨yr, yc, A2, n2, k2, l2⟩ := y
  refine enter Tryz.func30 rfl rfl rfl ?_
  have hF := Fr.refl w
  repeat' (first | (refine TL.isOp ?_; first | (refine TL.isCall ?_; refine TL.call rfl rfl ?_; first | (refine (hsc _ hF.ext bn (Fr.sl hF (by repeat (first | exact memH | apply memT)))).mono ?_; rintro _ wz ⟨⟨zr, zc, zA, zn, zk, zl⟩, rfl, hLz, hE, hf⟩; replace hF := Fr.addLM hF hE hLz hf; clear hE hf hLz; refine Back.mk ?_) | (refine (had _ ⟨zr, zc, zA, zn, zk, zl⟩ hF.ext (Fr.lm hF (by repeat (first | exact memH | apply memT))).sh).mono ?_; rintro _ wz ⟨rfl, hE⟩; replace hF := hF.exts hE; clear hE; refine Back.mk ?_)) | (refine TL.isBin ?_; refine TL.cmpG rfl rfl rfl rfl (fun hc => ?_) (fun hc => ?_) <;> (try (first | (exfalso; omega) | exact absurd rfl hc))) | (apply TL.ev; (case hd => rfl); (case h => (first | exact ev_simple rfl | (apply Ev.isLoad; first | exact ev_loadAFr hF rfl (by refine ⟨?_, ?_⟩; (focus (repeat (first | exact InV.head | apply InV.tail))); rfl)) | exact ev_buildX rfl rfl))) | (refine TL.storeAFr hF rfl rfl rfl rfl (by refine ⟨?_, ?_⟩; (focus (repeat (first | apply SetV.head | apply SetV.tail))); rfl) rfl ?_; clear hF; intro ws hF) | (refine TL.boxAFr hF (d := 2) (cs := [.int .i64 xr, .int .i64 xc, .slice A n k]) rfl rfl ?_; clear hF; intro w2 b2 hF) | (refine TL.boxAFr hF (d := 3) (cs := [.int .i64 yr, .int .i64 yc, .slice A2 n2 k2]) rfl rfl ?_; clear hF; intro w3 b3 hF) | (refine TL.allocFr hF (d := 4) rfl rfl ?_; clear hF; intro w4 b4 hF) | (refine TL.allocFr hF (d := 6) rfl rfl ?_; clear hF; intro w6 b6 hF) | (refine TL.build1U rfl rfl (fun wn bn ebn hBn hEn hzn => ?_); replace hF := Fr.addSl (hF.exts hEn) (hBn.slN (n := 1) (c := 1) rfl (Nat.le_refl _) hBn.lt); clear ebn hBn hEn hzn)) | (refine T.is ?_; first | refine T.seq ?_ | refine T.region ?_ | refine T.cond_f rfl ?_ | refine T.ret ?_ | refine T.skip ?_) | (refine G.is ?_; first | refine G.next ?_) | refine TL.nil ?_)
  exact G.retC2 rfl rfl rfl (held_agg (hF.var (by repeat (first | exact InV.head | apply InV.tail))) rfl) ⟨rfl, hF.ext⟩
theorem rsubM_bad (w : World) (x y : MV) (h : ¬ Snd y) : Cl Tryz.prog 30 #[.agg (mvc x).toArray, .agg (mvc y).toArray] w (RetMF w 1) := by
  have hsc := fun w1 b => rscale_bad w1 (mone b) y h
  clear h
  obtain ⟨xr, xc, A, n, k, l⟩ := x
  obtain ⟨yr, yc, A2, n2, k2, l2⟩ := y
  refine enter Tryz.func30 rfl rfl rfl ?_
  have hF := Fr.refl w
  repeat' (first | (refine TL.isOp ?_; first | (refine TL.isCall ?_; refine TL.call rfl rfl ?_; first | (refine (hsc _ bn).mono ?_; rintro _ wz ⟨rfl, hE⟩; replace hF := hF.exts hE; clear hE; refine Back.mk ?_)) | (refine TL.isBin ?_; refine TL.cmpG rfl rfl rfl rfl (fun hc => ?_) (fun hc => ?_) <;> (try (first | (exfalso; omega) | exact absurd rfl hc))) | (apply TL.ev; (case hd => rfl); (case h => (first | exact ev_simple rfl | (apply Ev.isLoad; first | exact ev_loadAFr hF rfl (by refine ⟨?_, ?_⟩; (focus (repeat (first | exact InV.head | apply InV.tail))); rfl)) | exact ev_buildX rfl rfl))) | (refine TL.storeAFr hF rfl rfl rfl rfl (by refine ⟨?_, ?_⟩; (focus (repeat (first | apply SetV.head | apply SetV.tail))); rfl) rfl ?_; clear hF; intro ws hF) | (refine TL.boxAFr hF (d := 2) (cs := [.int .i64 xr, .int .i64 xc, .slice A n k]) rfl rfl ?_; clear hF; intro w2 b2 hF) | (refine TL.boxAFr hF (d := 3) (cs := [.int .i64 yr, .int .i64 yc, .slice A2 n2 k2]) rfl rfl ?_; clear hF; intro w3 b3 hF) | (refine TL.allocFr hF (d := 4) rfl rfl ?_; clear hF; intro w4 b4 hF) | (refine TL.allocFr hF (d := 6) rfl rfl ?_; clear hF; intro w6 b6 hF) | (refine TL.build1U rfl rfl (fun wn bn ebn hBn hEn hzn => ?_); replace hF := Fr.addSl (hF.exts hEn) (hBn.slN (n := 1) (c := 1) rfl (Nat.le_refl _) hBn.lt); clear ebn hBn hEn hzn)) | (refine T.is ?_; first | refine T.seq ?_ | refine T.region ?_ | refine T.cond_t rfl ?_ | refine T.ret ?_) | (refine G.is ?_; first | refine G.next ?_ | refine G.thenR ?_) | refine TL.nil ?_)
  exact G.retC2 rfl rfl rfl (held_agg (hF.var (by repeat (first | exact InV.head | apply InV.tail))) rfl) ⟨rfl, hF.ext⟩
set_option maxRecDepth 100000 in
theorem rtrace_ok (w : World) (x : MV) (n K : Nat) (gx : GM w.heap x n n K) (hK : K ≤ 1048570000) :
    Cl Tryz.prog 36 #[.agg (mvc x).toArray] w (RetZE w (psum (fun q => ent x n q q) n) (K + n)) := by
  have hck := fun w => rchkE_ok w x n n gx.sh
  have hld := fun i j (hi : i < n) (hj : j < n) => gx.load hi hj
  obtain ⟨F, hFe⟩ : ∃ F, F = ent x n := ⟨_, rfl⟩
  rw [← hFe]
  simp only [← hFe] at hld
  clear hFe
  have s1 := gx.sh
  have hs := gx.s
  clear gx
  obtain ⟨xr, xc, A, m, k, l⟩ := x
  obtain ⟨hr1, hc1, hr, _, hn1⟩ := s1
  dsimp only at hr1 hc1 hn1 hs hld
  subst hr1 hc1 hn1
  have hm := mul64 hr hr
  refine enter Tryz.func36 rfl rfl rfl ?_
  have hF := Fr.refl w
  repeat' (first | (refine TL.isOp ?_; first | (refine TL.isCall ?_; refine TL.call rfl rfl ?_; first | (refine (hck _).mono ?_; rintro _ wy ⟨rfl, hE⟩; replace hF := hF.exts hE; clear hE; refine Back.mk ?_)) | (refine TL.isBin ?_; refine TL.cmpG rfl rfl rfl rfl (fun hc => ?_) (fun hc => ?_) <;> (try (first | (exfalso; omega) | exact absurd rfl hc))) | (apply TL.ev; (case hd => rfl); (case h => (first | exact ev_simple rfl | (apply Ev.isLoad; first | exact ev_loadFr hF rfl (by refine ⟨?_, ?_⟩; (focus (repeat (first | exact InV.head | apply InV.tail))); rfl) | exact ev_loadAFr hF rfl (by refine ⟨?_, ?_⟩; (focus (repeat (first | exact InV.head | apply InV.tail))); rfl)) | exact ev_fieldAddr rfl | exact ev_buildX rfl rfl))) | (refine TL.storeAFr hF rfl rfl rfl rfl (by refine ⟨?_, ?_⟩; (focus (repeat (first | apply SetV.head | apply SetV.tail))); rfl) rfl ?_; clear hF; intro ws hF) | (refine TL.boxAFr hF (d := 1) (cs := [.int .i64 (n : Int), .int .i64 (n : Int), .slice A (n * n) k]) rfl rfl ?_; clear hF; intro w1 b1 hF) | (refine TL.allocFr hF (d := 2) rfl rfl ?_; clear hF; intro w2 b2 hF) | (refine TL.allocFr hF (d := 5) rfl rfl ?_; clear hF; intro w5 b5 hF)) | (refine T.is ?_; first | refine T.seq ?_ | refine T.region ?_ | refine T.block ?_ | refine T.cond_f rfl ?_ | refine T.skip ?_) | (refine G.is ?_; first | refine G.next ?_) | refine TL.nil ?_)
  refine T.loop (α := Nat × IV) (fun x => [(1, .pointer (some ⟨b1, 0, none⟩)), (2, .pointer (some ⟨b2, 0, none⟩)), (5, .pointer (some ⟨b5, 0, none⟩)), (6, .int .i64 (x.1 : Int))])
    (fun x w' => x.1 ≤ n ∧ x.2.m.n ≤ K + x.1 ∧ Fr w w' [⟨b5, 30, [.bool x.2.neg, .slice x.2.m.A x.2.m.n x.2.m.c]⟩, ⟨b2, 30, [.bool false, .slice none 0 0]⟩, ⟨b1, 27, [.int .i64 (n : Int), .int .i64 (n : Int), .slice A (n * n) k]⟩] [dpLI (psum (fun q => F q q) x.1) x.2])
    (fun x => n - x.1) (0, nought) (by repeat (first | exact Sub.nil _ | refine Sub.cons rfl ?_ | refine Sub.cons' rfl (int_congr (by omega)) ?_)) ⟨Nat.zero_le _, Nat.zero_le _, Fr.addLI hF (li_n0 _)⟩ ?_
  clear hF
  rintro ⟨i, ⟨sn, ⟨sA, sm, sc, sl⟩⟩⟩ w2 ⟨hi, hsn, hF⟩
  dsimp only at hi hsn hF ⊢
  rcases Nat.lt_or_ge i n with hin | hin
  · have hpl := place_lt hin hin
    obtain ⟨y, hy, gy, hyn, hyv⟩ := hld i i hin hin
    repeat' (first | (refine TL.isOp ?_; first | (refine TL.isCall ?_; refine TL.call rfl rfl ?_; first | (refine (r5add_ok _ ⟨sn, ⟨sA, sm, sc, sl⟩⟩ y (Fr.li hF (by repeat (first | exact memH | apply memT))).g (gy.ext hF.ext) (by dsimp only; omega) (by omega)).mono ?_; rintro _ wl ⟨⟨un, ⟨uA, um, uc, ul⟩⟩, rfl, hLu, hE, hKu⟩; dsimp only at hKu; rw [(Fr.li hF (x := ⟨sn, ⟨sA, sm, sc, sl⟩⟩) (by repeat (first | exact memH | apply memT))).val, hyv, Int.add_comm] at hLu; replace hF := Fr.addLI (hF.exts hE) hLu; clear hE hLu; refine Back.mk ?_)) | (refine TL.isBin ?_; refine TL.cmpG rfl rfl rfl rfl (fun hc => ?_) (fun hc => ?_) <;> (try (first | (exfalso; omega) | exact absurd rfl hc))) | (apply TL.ev; (case hd => rfl); (case h => (first | exact ev_simple rfl | (apply Ev.isBin; first | exact ev_arN rfl rfl rfl (by omega)) | (apply Ev.isLoad; first | exact ev_loadFr hF rfl (by refine ⟨?_, ?_⟩; (focus (repeat (first | exact InV.head | apply InV.tail))); rfl)) | exact ev_fieldAddr rfl))) | (refine TL.storeAFr hF rfl rfl rfl rfl (by refine ⟨?_, ?_⟩; (focus (repeat (first | apply SetV.head | apply SetV.tail))); rfl) rfl ?_; clear hF; intro ws hF)) | (refine TF.is ?_; first | refine TF.nil ?_ | refine TF.e rfl ?_ | (refine TF.pick rfl ?_; first | (apply TFo.ev; (case hd => rfl); (case h => (intro wh hF; first | exact ev_simple rfl | (apply Ev.isBin; first | exact ev_arN rfl rfl rfl (by omega)) | (apply Ev.isLoad; first | exact ev_loadFr hF rfl (by refine ⟨?_, ?_⟩; (focus (repeat (first | exact InV.head | apply InV.tail))); rfl) | exact ev_loadAFr hF rfl (by refine ⟨?_, ?_⟩; (focus (repeat (first | exact InV.head | apply InV.tail))); rfl) | exact ev_loadM rfl (hs.ext hF.ext) hy) | exact ev_fieldAddr rfl | exact ev_indexM rfl rfl hpl (hs.ext hF.ext).some))))) | (refine T.is ?_; first | refine T.seq ?_ | refine T.region ?_ | refine T.block ?_ | refine T.cond_t rfl ?_ | refine T.skip ?_ | (refine T.regionFr hF 10 12 (.s 0 (.s 1 (.s 2 (.s 3 (.s 4 (.s 5 (.s 6 (.s 7 (.s 8 (.s 9 (.s 10 (.e 11 (.e 12 .nil))))))))))))) mixed (by kernel_rfl) ?_; clear hF; intro wr hF)) | (refine G.is ?_; first | refine G.next ?_ | refine G.blockN ?_ | refine G.only ?_ | refine G.treeEnd rfl ?_ | refine G.tree rfl (by first | exact hF | exact hF.weak (by repeat (first | exact List.Sublist.refl _ | apply List.Sublist.cons)) (by repeat (first | exact allR | apply allT)) | exact hF.weak (by repeat (first | exact List.Sublist.refl _ | apply List.Sublist.cons)) (by repeat (first | exact allN | refine allH (by repeat (first | exact memH | apply memT)) ?_))) ?_) | refine TL.nil ?_)
    exact G.again (i + 1, ⟨un, ⟨uA, um, uc, ul⟩⟩) (by repeat (first | exact Sub.nil _ | refine Sub.cons rfl ?_ | refine Sub.cons' rfl (int_congr (by omega)) ?_)) ⟨by dsimp only; omega, by dsimp only; omega, hF.weak (List.Sublist.refl _) (allH (by repeat (first | exact memH | apply memT)) allN)⟩ (by dsimp only; omega)
  · obtain rfl : i = n := by omega
    repeat' (first | (refine TL.isOp ?_; first | (refine TL.isBin ?_; refine TL.cmpG rfl rfl rfl rfl (fun hc => ?_) (fun hc => ?_) <;> (try (first | (exfalso; omega) | exact absurd rfl hc))) | (apply TL.ev; (case hd => rfl); (case h => (first | exact ev_simple rfl | (apply Ev.isLoad; first | exact ev_loadFr hF rfl (by refine ⟨?_, ?_⟩; (focus (repeat (first | exact InV.head | apply InV.tail))); rfl) | exact ev_loadAFr hF rfl (by refine ⟨?_, ?_⟩; (focus (repeat (first | exact InV.head | apply InV.tail))); rfl)) | exact ev_fieldAddr rfl))) | (refine TL.storeAFr hF rfl rfl rfl rfl (by refine ⟨?_, ?_⟩; (focus (repeat (first | apply SetV.head | apply SetV.tail))); rfl) rfl ?_; clear hF; intro ws hF)) | (refine T.is ?_; first | refine T.seq ?_ | refine T.region ?_ | refine T.cond_f rfl ?_ | refine T.exit ?_ | refine T.ret ?_) | (refine G.is ?_; first | refine G.next ?_ | refine G.blockE ?_ | refine G.thenE ?_) | refine TL.nil ?_)
    exact G.retC2 rfl rfl rfl (held_agg (hF.var (by repeat (first | exact InV.head | apply InV.tail))) rfl) ⟨⟨sn, ⟨sA, sm, sc, sl⟩⟩, rfl, Fr.li hF (by repeat (first | exact memH | apply memT)), hF.ext, hsn⟩
theorem rtrace_unfit (w : World) (x : MV) (r c : Nat) (gx : Sound x r c) (hne : r ≠ c) : Cl Tryz.prog 36 #[.agg (mvc x).toArray] w (RetZF w 2) := by
  have hck := fun w => rchkE_ok w x r c gx
  have e1 := gx.er
  have e2 := gx.ec
  clear gx
  obtain ⟨xr, xc, A, n, k, l⟩ := x
  dsimp only at e1 e2
  subst e1 e2
  refine enter Tryz.func36 rfl rfl rfl ?_
  have hF := Fr.refl w
  repeat' (first | (refine TL.isOp ?_; first | (refine TL.isCall ?_; refine TL.call rfl rfl ?_; first | (refine (hck _).mono ?_; rintro _ wy ⟨rfl, hE⟩; replace hF := hF.exts hE; clear hE; refine Back.mk ?_)) | (refine TL.isBin ?_; refine TL.cmpG rfl rfl rfl rfl (fun hc => ?_) (fun hc => ?_) <;> (try (first | (exfalso; omega) | exact absurd rfl hc))) | (apply TL.ev; (case hd => rfl); (case h => (first | exact ev_simple rfl | (apply Ev.isLoad; first | exact ev_loadFr hF rfl (by refine ⟨?_, ?_⟩; (focus (repeat (first | exact InV.head | apply InV.tail))); rfl) | exact ev_loadAFr hF rfl (by refine ⟨?_, ?_⟩; (focus (repeat (first | exact InV.head | apply InV.tail))); rfl)) | exact ev_fieldAddr rfl | exact ev_buildX rfl rfl))) | (refine TL.storeAFr hF rfl rfl rfl rfl (by refine ⟨?_, ?_⟩; (focus (repeat (first | apply SetV.head | apply SetV.tail))); rfl) rfl ?_; clear hF; intro ws hF) | (refine TL.boxAFr hF (d := 1) (cs := [.int .i64 (r : Int), .int .i64 (c : Int), .slice A n k]) rfl rfl ?_; clear hF; intro w1 b1 hF) | (refine TL.allocFr hF (d := 2) rfl rfl ?_; clear hF; intro w2 b2 hF)) | (refine T.is ?_; first | refine T.seq ?_ | refine T.region ?_ | refine T.cond_t rfl ?_ | refine T.cond_f rfl ?_ | refine T.ret ?_ | refine T.skip ?_) | (refine G.is ?_; first | refine G.next ?_ | refine G.thenR ?_) | refine TL.nil ?_)
  exact G.retC2 rfl rfl rfl (held_agg (hF.var (by repeat (first | exact InV.head | apply InV.tail))) rfl) ⟨rfl, hF.ext⟩
theorem rtrace_bad (w : World) (x : MV) (h : ¬ Snd x) : Cl Tryz.prog 36 #[.agg (mvc x).toArray] w (RetZF w 1) := by
  have hck := fun w => rchk_any w x (.inr ⟨h, rfl⟩)
  clear h
  obtain ⟨xr, xc, A, n, k, l⟩ := x
  refine enter Tryz.func36 rfl rfl rfl ?_
  have hF := Fr.refl w
  repeat' (first | (refine TL.isOp ?_; first | (refine TL.isCall ?_; refine TL.call rfl rfl ?_; first | (refine (hck _).mono ?_; rintro _ wy ⟨rfl, hE⟩; replace hF := hF.exts hE; clear hE; refine Back.mk ?_)) | (refine TL.isBin ?_; refine TL.cmpG rfl rfl rfl rfl (fun hc => ?_) (fun hc => ?_) <;> (try (first | (exfalso; omega) | exact absurd rfl hc))) | (apply TL.ev; (case hd => rfl); (case h => (first | exact ev_simple rfl | (apply Ev.isLoad; first | exact ev_loadAFr hF rfl (by refine ⟨?_, ?_⟩; (focus (repeat (first | exact InV.head | apply InV.tail))); rfl)) | exact ev_buildX rfl rfl))) | (refine TL.storeAFr hF rfl rfl rfl rfl (by refine ⟨?_, ?_⟩; (focus (repeat (first | apply SetV.head | apply SetV.tail))); rfl) rfl ?_; clear hF; intro ws hF) | (refine TL.boxAFr hF (d := 1) (cs := [.int .i64 xr, .int .i64 xc, .slice A n k]) rfl rfl ?_; clear hF; intro w1 b1 hF) | (refine TL.allocFr hF (d := 2) rfl rfl ?_; clear hF; intro w2 b2 hF)) | (refine T.is ?_; first | refine T.seq ?_ | refine T.region ?_ | refine T.cond_t rfl ?_ | refine T.ret ?_) | (refine G.is ?_; first | refine G.next ?_ | refine G.thenR ?_) | refine TL.nil ?_)
  exact G.retC2 rfl rfl rfl (held_agg (hF.var (by repeat (first | exact InV.head | apply InV.tail))) rfl) ⟨rfl, hF.ext⟩
end Go.Proofs.YtlhmehikajidhaaGreat
namespace Go.Proofs.YtlhmehikajidhaaGreat
open Go Go.Eng Go.Proofs Go.NatM Go.RowKit
theorem psum_abs {f : Nat → Int} {B : Nat} : ∀ (m : Nat), (∀ q, q < m → (f q).natAbs ≤ B) → (psum f m).natAbs ≤ m * B
  | 0, _ => by simp [psum]
  | m + 1, h => by
    have h1 := psum_abs m (fun q hq => h q (by omega))
    have h2 := h m (Nat.lt_succ_self m)
    have h3 := Int.natAbs_add_le (f m) (psum f m)
    have e : psum f (m + 1) = f m + psum f m := rfl
    rw [e, Nat.succ_mul]
    omega
theorem psum_lt {f : Nat → Int} {k m : Nat} (hm : m ≤ 64) (h : ∀ q, q < m → (f q).natAbs < 18446744073709551616 ^ k) : (psum f m).natAbs < 18446744073709551616 ^ (k + 1) := by
  have h1 := psum_abs (B := 18446744073709551616 ^ k) m (fun q hq => Nat.le_of_lt (h q hq))
  have h2 : 0 < 18446744073709551616 ^ k := Nat.pow_pos (by decide)
  have h3 := Nat.mul_le_mul_right (18446744073709551616 ^ k) hm
  rw [Nat.pow_succ]
  omega
theorem LM.tight {H : Array Obj} {x : MV} {r c : Nat} {F : Nat → Nat → Int} {K k : Nat} (h : LM H x r c F K) (hF : ∀ i j, i < r → j < c → (F i j).natAbs < 18446744073709551616 ^ k) : LM H x r c F k :=
  ⟨h.sh, h.s, fun i j hi hj => ⟨(h.g i j hi hj).1, (h.g i j hi hj).1.nle (hF i j hi hj)⟩⟩
theorem GM.ent_lt {H : Array Obj} {x : MV} {r c K : Nat} (h : GM H x r c K) {i j : Nat} (hi : i < r) (hj : j < c) : (ent x c i j).natAbs < 18446744073709551616 ^ K := by
  obtain ⟨y, hy, g, hn, hv⟩ := h.load hi hj
  rw [← hv]
  exact Nat.lt_of_lt_of_le g.abs_lt (wpow_mono hn)
set_option maxRecDepth 100000 in
theorem rmul_ok (w : World) (x y : MV) (r m c Kx Ky : Nat) (gx : GM w.heap x r m Kx) (gy : GM w.heap y m c Ky) (hKx : Kx ≤ 523000000) (hKy : Ky ≤ 523000000) :
    Cl Tryz.prog 32 #[.agg (mvc x).toArray, .agg (mvc y).toArray] w (RetME w r c (fun i j => psum (fun q => ent x m i q * ent y c q j) m) (Kx + Ky + m)) := by
  have hbo := fun w => rboth_ok w x y gx.sh.snd gy.sh.snd
  have hld := fun i j (hi : i < r) (hj : j < m) => gx.load hi hj
  have hld2 := fun i j (hi : i < m) (hj : j < c) => gy.load hi hj
  have hsx := gx.s
  have hsy := gy.s
  have s1 := gx.sh
  have s2 := gy.sh
  clear gx gy
  generalize ent x m = F at *
  generalize ent y c = F2 at *
  obtain ⟨xr, xc, A, n, k, l⟩ := x
  obtain ⟨yr, yc, A2, n2, k2, l2⟩ := y
  obtain ⟨hr1, hc1, hr, hmm, hn1⟩ := s1
  obtain ⟨hr2, hc2, _, hcc, hn2⟩ := s2
  dsimp only at hr1 hc1 hn1 hr2 hc2 hn2 hsx hsy hld hld2
  subst hr1 hc1 hn1 hr2 hc2 hn2
  have hm1 := mul64 hr hcc
  have hm2 := mul64 hr hmm
  have hm3 := mul64 hmm hcc
  refine enter Tryz.func32 rfl rfl rfl ?_
  have hF := Fr.refl w
  repeat' (first | (refine TL.isOp ?_; first | (refine TL.isCall ?_; refine TL.call rfl rfl ?_; first | (refine (hbo _).mono ?_; rintro _ wy ⟨rfl, hE⟩; replace hF := hF.exts hE; clear hE; refine Back.mk ?_) | (refine (blank_ok _ r c hr hcc).mono ?_; rintro _ wb ⟨b, rfl, hB⟩; replace hF := Fr.blank hF hB; clear hB; refine Back.mk ?_)) | (refine TL.isBin ?_; refine TL.cmpG rfl rfl rfl rfl (fun hc => ?_) (fun hc => ?_) <;> (try (first | (exfalso; omega) | exact absurd rfl hc))) | (apply TL.ev; (case hd => rfl); (case h => (first | exact ev_simple rfl | (apply Ev.isLoad; first | exact ev_loadFr hF rfl (by refine ⟨?_, ?_⟩; (focus (repeat (first | exact InV.head | apply InV.tail))); rfl) | exact ev_loadAFr hF rfl (by refine ⟨?_, ?_⟩; (focus (repeat (first | exact InV.head | apply InV.tail))); rfl)) | exact ev_fieldAddr rfl))) | (refine TL.storeAFr hF rfl rfl rfl rfl (by refine ⟨?_, ?_⟩; (focus (repeat (first | apply SetV.head | apply SetV.tail))); rfl) rfl ?_; clear hF; intro ws hF) | (refine TL.boxAFr hF (d := 2) (cs := [.int .i64 (r : Int), .int .i64 (m : Int), .slice A (r * m) k]) rfl rfl ?_; clear hF; intro w2 b2 hF) | (refine TL.boxAFr hF (d := 3) (cs := [.int .i64 (m : Int), .int .i64 (c : Int), .slice A2 (m * c) k2]) rfl rfl ?_; clear hF; intro w3 b3 hF) | (refine TL.allocFr hF (d := 4) rfl rfl ?_; clear hF; intro w4 b4 hF) | (refine TL.allocFr hF (d := 7) rfl rfl ?_; clear hF; intro w7 b7 hF)) | (refine T.is ?_; first | refine T.seq ?_ | refine T.region ?_ | refine T.block ?_ | refine T.cond_f rfl ?_ | refine T.skip ?_) | (refine G.is ?_; first | refine G.next ?_) | refine TL.nil ?_)
  refine T.loop (α := Nat × List IV) (fun x => [(2, .pointer (some ⟨b2, 0, none⟩)), (3, .pointer (some ⟨b3, 0, none⟩)), (4, .pointer (some ⟨b4, 0, none⟩)), (7, .pointer (some ⟨b7, 0, none⟩)), (8, .int .i64 (x.1 : Int))])
    (fun x w' => x.1 ≤ r ∧ x.2.length = r * c ∧ Fr w w' [⟨b, 30, x.2.flatMap ivc⟩, ⟨b7, 27, [.int .i64 (r : Int), .int .i64 (c : Int), .slice (some ⟨b, 0, none⟩) (r * c) (r * c)]⟩, ⟨b4, 27, [.int .i64 0, .int .i64 0, .slice none 0 0]⟩, ⟨b3, 27, [.int .i64 (m : Int), .int .i64 (c : Int), .slice A2 (m * c) k2]⟩, ⟨b2, 27, [.int .i64 (r : Int), .int .i64 (m : Int), .slice A (r * m) k]⟩] [dpLK (r * c) x.2 (upZ (x.1 * c) (fun p => psum (fun q => F (p / c) q * F2 q (p % c)) m)) (Kx + Ky + m)])
    (fun x => r - x.1) (0, List.replicate (r * c) nought) (by repeat (first | exact Sub.nil _ | refine Sub.cons rfl ?_ | refine Sub.cons' rfl (int_congr (by omega)) ?_)) ⟨Nat.zero_le _, List.length_replicate .., Fr.addLK hF.swap ((lk_zeros _ _ _).congrN fun q _ => by unfold upZ; rw [Nat.zero_mul, if_neg (Nat.not_lt_zero _)])⟩ ?_
  clear hF
  rintro ⟨i, zl⟩ w2 ⟨hi, hzl, hF⟩
  dsimp only at hi hzl hF ⊢
  rcases Nat.lt_or_ge i r with hin | hin
  · repeat' (first | (refine TL.isOp ?_; first | (refine TL.isBin ?_; refine TL.cmpG rfl rfl rfl rfl (fun hc => ?_) (fun hc => ?_) <;> (try (first | (exfalso; omega) | exact absurd rfl hc))) | (apply TL.ev; (case hd => rfl); (case h => (first | exact ev_simple rfl | (apply Ev.isLoad; first | exact ev_loadFr hF rfl (by refine ⟨?_, ?_⟩; (focus (repeat (first | exact InV.head | apply InV.tail))); rfl)) | exact ev_fieldAddr rfl)))) | (refine T.is ?_; first | refine T.seq ?_ | refine T.region ?_ | refine T.block ?_ | refine T.cond_t rfl ?_ | refine T.skip ?_) | (refine G.is ?_; first | refine G.next ?_) | refine TL.nil ?_)
    refine T.loop (α := Nat × List IV) (fun x => [(2, .pointer (some ⟨b2, 0, none⟩)), (3, .pointer (some ⟨b3, 0, none⟩)), (4, .pointer (some ⟨b4, 0, none⟩)), (7, .pointer (some ⟨b7, 0, none⟩)), (8, .int .i64 (i : Int)), (9, .int .i64 (x.1 : Int))])
      (fun x w' => x.1 ≤ c ∧ x.2.length = r * c ∧ Fr w w' [⟨b, 30, x.2.flatMap ivc⟩, ⟨b7, 27, [.int .i64 (r : Int), .int .i64 (c : Int), .slice (some ⟨b, 0, none⟩) (r * c) (r * c)]⟩, ⟨b4, 27, [.int .i64 0, .int .i64 0, .slice none 0 0]⟩, ⟨b3, 27, [.int .i64 (m : Int), .int .i64 (c : Int), .slice A2 (m * c) k2]⟩, ⟨b2, 27, [.int .i64 (r : Int), .int .i64 (m : Int), .slice A (r * m) k]⟩] [dpLK (r * c) x.2 (upZ (i * c + x.1) (fun p => psum (fun q => F (p / c) q * F2 q (p % c)) m)) (Kx + Ky + m)])
      (fun x => c - x.1) (0, zl) (by repeat (first | exact Sub.nil _ | refine Sub.cons rfl ?_ | refine Sub.cons' rfl (int_congr (by omega)) ?_)) ⟨Nat.zero_le _, hzl, hF⟩ ?_
    clear hF hzl
    clear zl
    rintro ⟨j, zl⟩ w3 ⟨hj, hzl, hF⟩
    dsimp only at hj hzl hF ⊢
    rcases Nat.lt_or_ge j c with hjn | hjn
    · have hpl := place_lt hin hjn
      repeat' (first | (refine TL.isOp ?_; first | (refine TL.isBin ?_; refine TL.cmpG rfl rfl rfl rfl (fun hc => ?_) (fun hc => ?_) <;> (try (first | (exfalso; omega) | exact absurd rfl hc))) | (apply TL.ev; (case hd => rfl); (case h => (first | exact ev_simple rfl | (apply Ev.isLoad; first | exact ev_loadFr hF rfl (by refine ⟨?_, ?_⟩; (focus (repeat (first | exact InV.head | apply InV.tail))); rfl)) | exact ev_fieldAddr rfl | exact ev_buildX rfl rfl))) | (refine TL.storeAFr hF rfl rfl rfl rfl (by refine ⟨?_, ?_⟩; (focus (repeat (first | apply SetV.head | apply SetV.tail))); rfl) rfl ?_; clear hF; intro ws hF) | (refine TL.allocFr hF (d := 10) rfl rfl ?_; clear hF; intro w10 b10 hF)) | (refine T.is ?_; first | refine T.seq ?_ | refine T.region ?_ | refine T.block ?_ | refine T.cond_t rfl ?_ | refine T.skip ?_) | (refine G.is ?_; first | refine G.next ?_) | refine TL.nil ?_)
      refine T.loop (α := Nat × IV) (fun x => [(2, .pointer (some ⟨b2, 0, none⟩)), (3, .pointer (some ⟨b3, 0, none⟩)), (4, .pointer (some ⟨b4, 0, none⟩)), (7, .pointer (some ⟨b7, 0, none⟩)), (8, .int .i64 (i : Int)), (9, .int .i64 (j : Int)), (10, .pointer (some ⟨b10, 0, none⟩)), (11, .int .i64 (x.1 : Int))])
        (fun x w' => x.1 ≤ m ∧ x.2.m.n ≤ Kx + Ky + x.1 ∧ Fr w w' [⟨b10, 30, [.bool x.2.neg, .slice x.2.m.A x.2.m.n x.2.m.c]⟩, ⟨b, 30, zl.flatMap ivc⟩, ⟨b7, 27, [.int .i64 (r : Int), .int .i64 (c : Int), .slice (some ⟨b, 0, none⟩) (r * c) (r * c)]⟩, ⟨b4, 27, [.int .i64 0, .int .i64 0, .slice none 0 0]⟩, ⟨b3, 27, [.int .i64 (m : Int), .int .i64 (c : Int), .slice A2 (m * c) k2]⟩, ⟨b2, 27, [.int .i64 (r : Int), .int .i64 (m : Int), .slice A (r * m) k]⟩] [dpLI (psum (fun q => F i q * F2 q j) x.1) x.2, dpLK (r * c) zl (upZ (i * c + j) (fun p => psum (fun q => F (p / c) q * F2 q (p % c)) m)) (Kx + Ky + m)])
        (fun x => m - x.1) (0, nought) (by repeat (first | exact Sub.nil _ | refine Sub.cons rfl ?_ | refine Sub.cons' rfl (int_congr (by omega)) ?_)) ⟨Nat.zero_le _, Nat.zero_le _, Fr.addLI hF (li_n0 _)⟩ ?_
      clear hF
      rintro ⟨q, ⟨sn, ⟨sA, sm, sc, sl⟩⟩⟩ w4 ⟨hq, hsn, hF⟩
      dsimp only at hq hsn hF ⊢
      rcases Nat.lt_or_ge q m with hqn | hqn
      · have hp1 := place_lt (i := i) (j := q) (r := r) (c := m) hin hqn
        have hp2 := place_lt (i := q) (j := j) (r := m) (c := c) hqn hjn
        obtain ⟨y1, hy1, g1, n1, v1⟩ := hld i q hin hqn
        obtain ⟨y2, hy2, g2, n2, v2⟩ := hld2 q j hqn hjn
        repeat' (first | (refine TL.isOp ?_; first | (refine TL.isCall ?_; refine TL.call rfl rfl ?_; first | (refine (r5mulAdd_ok _ y1 y2 ⟨sn, ⟨sA, sm, sc, sl⟩⟩ (g1.ext hF.ext) (g2.ext hF.ext) (Fr.li hF (x := ⟨sn, ⟨sA, sm, sc, sl⟩⟩) (by repeat (first | exact memH | apply memT))).g (by omega) (by omega) (by dsimp only; omega)).mono ?_; rintro _ wl ⟨⟨un, ⟨uA, um, uc, ul⟩⟩, rfl, hLu, hE, hKu⟩; dsimp only at hKu; rw [v1, v2, (Fr.li hF (x := ⟨sn, ⟨sA, sm, sc, sl⟩⟩) (by repeat (first | exact memH | apply memT))).val] at hLu; replace hF := Fr.addLI (hF.exts hE) hLu; clear hE hLu; refine Back.mk ?_)) | (refine TL.isBin ?_; refine TL.cmpG rfl rfl rfl rfl (fun hc => ?_) (fun hc => ?_) <;> (try (first | (exfalso; omega) | exact absurd rfl hc))) | (apply TL.ev; (case hd => rfl); (case h => (first | exact ev_simple rfl | (apply Ev.isBin; first | exact ev_arN rfl rfl rfl (by omega)) | (apply Ev.isLoad; first | exact ev_loadFr hF rfl (by refine ⟨?_, ?_⟩; (focus (repeat (first | exact InV.head | apply InV.tail))); rfl)) | exact ev_fieldAddr rfl))) | (refine TL.storeAFr hF rfl rfl rfl rfl (by refine ⟨?_, ?_⟩; (focus (repeat (first | apply SetV.head | apply SetV.tail))); rfl) rfl ?_; clear hF; intro ws hF)) | (refine TF.is ?_; first | refine TF.nil ?_ | refine TF.e rfl ?_ | (refine TF.pick rfl ?_; first | (apply TFo.ev; (case hd => rfl); (case h => (intro wh hF; first | exact ev_simple rfl | (apply Ev.isBin; first | exact ev_arN rfl rfl rfl (by omega)) | (apply Ev.isLoad; first | exact ev_loadFr hF rfl (by refine ⟨?_, ?_⟩; (focus (repeat (first | exact InV.head | apply InV.tail))); rfl) | exact ev_loadAFr hF rfl (by refine ⟨?_, ?_⟩; (focus (repeat (first | exact InV.head | apply InV.tail))); rfl) | exact ev_loadM rfl (hsx.ext hF.ext) hy1 | exact ev_loadM rfl (hsy.ext hF.ext) hy2) | exact ev_fieldAddr rfl | exact ev_indexM rfl rfl hp1 (hsx.ext hF.ext).some | exact ev_indexM rfl rfl hp2 (hsy.ext hF.ext).some))))) | (refine T.is ?_; first | refine T.seq ?_ | refine T.region ?_ | refine T.block ?_ | refine T.cond_t rfl ?_ | refine T.skip ?_ | (refine T.regionFr hF 17 22 (.s 0 (.s 1 (.s 2 (.s 3 (.s 4 (.s 5 (.s 6 (.s 7 (.s 8 (.s 9 (.s 10 (.s 11 (.s 12 (.s 13 (.s 14 (.s 15 (.s 16 (.s 17 (.s 18 (.s 19 (.s 20 (.e 21 (.e 22 .nil))))))))))))))))))))))) mixed (by kernel_rfl) ?_; clear hF; intro wr hF)) | (refine G.is ?_; first | refine G.next ?_ | refine G.blockN ?_ | refine G.only ?_ | refine G.treeEnd rfl ?_ | refine G.tree rfl (by first | exact hF | exact hF.weak (by repeat (first | exact List.Sublist.refl _ | apply List.Sublist.cons)) (by repeat (first | exact allR | apply allT)) | exact hF.weak (by repeat (first | exact List.Sublist.refl _ | apply List.Sublist.cons)) (by repeat (first | exact allN | refine allH (by repeat (first | exact memH | apply memT)) ?_))) ?_) | refine TL.nil ?_)
        exact G.again (q + 1, ⟨un, ⟨uA, um, uc, ul⟩⟩) (by repeat (first | exact Sub.nil _ | refine Sub.cons rfl ?_ | refine Sub.cons' rfl (int_congr (by omega)) ?_)) ⟨by dsimp only; omega, by dsimp only; omega, hF.weak (List.Sublist.refl _) (allH (by repeat (first | exact memH | apply memT)) (allH (by repeat (first | exact memH | apply memT)) allN))⟩ (by dsimp only; omega)
      · obtain rfl : q = m := by omega
        repeat' (first | (refine TL.isOp ?_; first | (refine TL.isBin ?_; refine TL.cmpG rfl rfl rfl rfl (fun hc => ?_) (fun hc => ?_) <;> (try (first | (exfalso; omega) | exact absurd rfl hc))) | (apply TL.ev; (case hd => rfl); (case h => (first | exact ev_simple rfl | (apply Ev.isBin; first | exact ev_arN rfl rfl rfl (by omega)) | (apply Ev.isLoad; first | exact ev_loadFr hF rfl (by refine ⟨?_, ?_⟩; (focus (repeat (first | exact InV.head | apply InV.tail))); rfl) | exact ev_loadAFr hF rfl (by refine ⟨?_, ?_⟩; (focus (repeat (first | exact InV.head | apply InV.tail))); rfl)) | exact ev_fieldAddr rfl | exact ev_indexM rfl rfl hpl (.inr rfl)))) | (refine TL.storeAtFr hF (f := ivc) (i := i * c + j) ⟨sn, ⟨sA, sm, sc, sl⟩⟩ rfl rfl rfl rfl (fun _ => rfl) (by rw [hzl]; exact hpl) (ivc_noV zl) (by repeat (first | apply SetV.head | apply SetV.tail)) ?_; clear hF; intro ws hF)) | (refine T.is ?_; first | refine T.seq ?_ | refine T.region ?_ | refine T.cond_f rfl ?_ | refine T.exit ?_) | (refine G.is ?_; first | refine G.next ?_ | refine G.blockN ?_ | refine G.blockE ?_ | refine G.thenE ?_) | refine TL.nil ?_)
        have hk := (Fr.lk hF (i := r * c) (l := zl) (by repeat (first | exact memH | apply memT))).setAtN (Z' := upZ (i * c + j + 1) (fun p => psum (fun t => F (p / c) t * F2 t (p % c)) q)) (u := ⟨sn, ⟨sA, sm, sc, sl⟩⟩) (q := i * c + j) (by omega) (by rw [upZ_succ, (divmod2 hjn).1, (divmod2 hjn).2]; exact Fr.li hF (by repeat (first | exact memH | apply memT))) (by dsimp only; omega) (fun p hp => upZ_ne hp)
        exact G.again (j + 1, zl.set (i * c + j) ⟨sn, ⟨sA, sm, sc, sl⟩⟩) (by repeat (first | exact Sub.nil _ | refine Sub.cons rfl ?_ | refine Sub.cons' rfl (int_congr (by omega)) ?_)) ⟨by dsimp only; omega, by rw [List.length_set]; exact hzl, Fr.addLK (hF.weak (.cons _ (.refl _)) allN) hk⟩ (by dsimp only; omega)
    · obtain rfl : j = c := by omega
      repeat' (first | (refine TL.isOp ?_; first | (refine TL.isBin ?_; refine TL.cmpG rfl rfl rfl rfl (fun hc => ?_) (fun hc => ?_) <;> (try (first | (exfalso; omega) | exact absurd rfl hc))) | (apply TL.ev; (case hd => rfl); (case h => (first | exact ev_simple rfl | (apply Ev.isBin; first | exact ev_arN rfl rfl rfl (by omega)) | (apply Ev.isLoad; first | exact ev_loadFr hF rfl (by refine ⟨?_, ?_⟩; (focus (repeat (first | exact InV.head | apply InV.tail))); rfl)) | exact ev_fieldAddr rfl)))) | (refine T.is ?_; first | refine T.seq ?_ | refine T.region ?_ | refine T.cond_f rfl ?_ | refine T.exit ?_) | (refine G.is ?_; first | refine G.next ?_ | refine G.blockN ?_ | refine G.blockE ?_ | refine G.thenE ?_) | refine TL.nil ?_)
      exact G.again (i + 1, zl) (by repeat (first | exact Sub.nil _ | refine Sub.cons rfl ?_ | refine Sub.cons' rfl (int_congr (by omega)) ?_)) ⟨by dsimp only; omega, hzl, by dsimp only; rw [Nat.add_mul, Nat.one_mul]; exact hF⟩ (by dsimp only; omega)
  · obtain rfl : i = r := by omega
    repeat' (first | (refine TL.isOp ?_; first | (refine TL.isBin ?_; refine TL.cmpG rfl rfl rfl rfl (fun hc => ?_) (fun hc => ?_) <;> (try (first | (exfalso; omega) | exact absurd rfl hc))) | (apply TL.ev; (case hd => rfl); (case h => (first | exact ev_simple rfl | (apply Ev.isLoad; first | exact ev_loadFr hF rfl (by refine ⟨?_, ?_⟩; (focus (repeat (first | exact InV.head | apply InV.tail))); rfl) | exact ev_loadAFr hF rfl (by refine ⟨?_, ?_⟩; (focus (repeat (first | exact InV.head | apply InV.tail))); rfl)) | exact ev_fieldAddr rfl))) | (refine TL.storeAFr hF rfl rfl rfl rfl (by refine ⟨?_, ?_⟩; (focus (repeat (first | apply SetV.head | apply SetV.tail))); rfl) rfl ?_; clear hF; intro ws hF)) | (refine T.is ?_; first | refine T.seq ?_ | refine T.region ?_ | refine T.cond_f rfl ?_ | refine T.exit ?_ | refine T.ret ?_) | (refine G.is ?_; first | refine G.next ?_ | refine G.blockE ?_ | refine G.thenE ?_) | refine TL.nil ?_)
    have hb := (hF.lo (b := b) (by repeat (first | exact InV.head | apply InV.tail))).resolve_right id
    exact G.retC2 rfl rfl rfl (held_agg (hF.var (by repeat (first | exact InV.head | apply InV.tail))) rfl) ⟨⟨i, c, some ⟨b, 0, none⟩, i * c, i * c, zl⟩, rfl, lm_of (hF.var (by repeat (first | exact InV.head | apply InV.tail))) hzl hr hcc (Fr.lk hF (by repeat (first | exact memH | apply memT))) (fun a q ha hq => by rw [upZ_end (place_lt ha hq), (divmod2 hq).1, (divmod2 hq).2]), hF.ext, .inr ⟨b, rfl, hb⟩⟩
theorem rmul_unfit (w : World) (x y : MV) (r m m' c : Nat) (gx : Sound x r m) (gy : Sound y m' c) (hne : m ≠ m') : Cl Tryz.prog 32 #[.agg (mvc x).toArray, .agg (mvc y).toArray] w (RetMF w 2) := by
  have hbo := fun w => rboth_ok w x y gx.snd gy.snd
  have e2 := gx.ec
  have e3 := gy.er
  clear gx gy
  obtain ⟨xr, xc, A, n, k, l⟩ := x
  obtain ⟨yr, yc, A2, n2, k2, l2⟩ := y
  dsimp only at e2 e3
  subst e2 e3
  refine enter Tryz.func32 rfl rfl rfl ?_
  have hF := Fr.refl w
  repeat' (first | (refine TL.isOp ?_; first | (refine TL.isCall ?_; refine TL.call rfl rfl ?_; first | (refine (hbo _).mono ?_; rintro _ wy ⟨rfl, hE⟩; replace hF := hF.exts hE; clear hE; refine Back.mk ?_)) | (refine TL.isBin ?_; refine TL.cmpG rfl rfl rfl rfl (fun hc => ?_) (fun hc => ?_) <;> (try (first | (exfalso; omega) | exact absurd rfl hc))) | (apply TL.ev; (case hd => rfl); (case h => (first | exact ev_simple rfl | (apply Ev.isLoad; first | exact ev_loadFr hF rfl (by refine ⟨?_, ?_⟩; (focus (repeat (first | exact InV.head | apply InV.tail))); rfl) | exact ev_loadAFr hF rfl (by refine ⟨?_, ?_⟩; (focus (repeat (first | exact InV.head | apply InV.tail))); rfl)) | exact ev_fieldAddr rfl | exact ev_buildX rfl rfl))) | (refine TL.storeAFr hF rfl rfl rfl rfl (by refine ⟨?_, ?_⟩; (focus (repeat (first | apply SetV.head | apply SetV.tail))); rfl) rfl ?_; clear hF; intro ws hF) | (refine TL.boxAFr hF (d := 2) (cs := [.int .i64 xr, .int .i64 (m : Int), .slice A n k]) rfl rfl ?_; clear hF; intro w2 b2 hF) | (refine TL.boxAFr hF (d := 3) (cs := [.int .i64 (m' : Int), .int .i64 yc, .slice A2 n2 k2]) rfl rfl ?_; clear hF; intro w3 b3 hF) | (refine TL.allocFr hF (d := 4) rfl rfl ?_; clear hF; intro w4 b4 hF)) | (refine T.is ?_; first | refine T.seq ?_ | refine T.region ?_ | refine T.cond_t rfl ?_ | refine T.cond_f rfl ?_ | refine T.ret ?_ | refine T.skip ?_) | (refine G.is ?_; first | refine G.next ?_ | refine G.thenR ?_) | refine TL.nil ?_)
  exact G.retC2 rfl rfl rfl (held_agg (hF.var (by repeat (first | exact InV.head | apply InV.tail))) rfl) ⟨rfl, hF.ext⟩
theorem rmul_bad (w : World) (x y : MV) (h : ¬ (Snd x ∧ Snd y)) : Cl Tryz.prog 32 #[.agg (mvc x).toArray, .agg (mvc y).toArray] w (RetMF w 1) := by
  have hbo := fun w => rboth_bad w x y h
  clear h
  obtain ⟨xr, xc, A, n, k, l⟩ := x
  obtain ⟨yr, yc, A2, n2, k2, l2⟩ := y
  refine enter Tryz.func32 rfl rfl rfl ?_
  have hF := Fr.refl w
  repeat' (first | (refine TL.isOp ?_; first | (refine TL.isCall ?_; refine TL.call rfl rfl ?_; first | (refine (hbo _).mono ?_; rintro _ wy ⟨rfl, hE⟩; replace hF := hF.exts hE; clear hE; refine Back.mk ?_)) | (refine TL.isBin ?_; refine TL.cmpG rfl rfl rfl rfl (fun hc => ?_) (fun hc => ?_) <;> (try (first | (exfalso; omega) | exact absurd rfl hc))) | (apply TL.ev; (case hd => rfl); (case h => (first | exact ev_simple rfl | (apply Ev.isLoad; first | exact ev_loadAFr hF rfl (by refine ⟨?_, ?_⟩; (focus (repeat (first | exact InV.head | apply InV.tail))); rfl)) | exact ev_buildX rfl rfl))) | (refine TL.storeAFr hF rfl rfl rfl rfl (by refine ⟨?_, ?_⟩; (focus (repeat (first | apply SetV.head | apply SetV.tail))); rfl) rfl ?_; clear hF; intro ws hF) | (refine TL.boxAFr hF (d := 2) (cs := [.int .i64 xr, .int .i64 xc, .slice A n k]) rfl rfl ?_; clear hF; intro w2 b2 hF) | (refine TL.boxAFr hF (d := 3) (cs := [.int .i64 yr, .int .i64 yc, .slice A2 n2 k2]) rfl rfl ?_; clear hF; intro w3 b3 hF) | (refine TL.allocFr hF (d := 4) rfl rfl ?_; clear hF; intro w4 b4 hF)) | (refine T.is ?_; first | refine T.seq ?_ | refine T.region ?_ | refine T.cond_t rfl ?_ | refine T.ret ?_) | (refine G.is ?_; first | refine G.next ?_ | refine G.thenR ?_) | refine TL.nil ?_)
  exact G.retC2 rfl rfl rfl (held_agg (hF.var (by repeat (first | exact InV.head | apply InV.tail))) rfl) ⟨rfl, hF.ext⟩
def vcZ (f : Nat → Nat → Int) (r j k q : Nat) : Int := if q < j then psum (f q) r else if q = j then psum (f q) k else 0
set_option maxRecDepth 100000 in
theorem rvec_ok (w : World) (B : Option Addr) (q0 : Nat) (lx : List IV) (x : MV) (r c Kx K : Nat) (hs0 : Sm 2 ivc w.heap w.heap.size B r q0 lx) (hg : ∀ y ∈ lx, GI w.heap y ∧ y.m.n ≤ Kx) (gx : GM w.heap x r c K) (hKx : Kx ≤ 523000000) (hK : K ≤ 523000000) :
    Cl Tryz.prog 33 #[.slice B r q0, .agg (mvc x).toArray] w (RetLE w c (fun j => psum (fun t => ival (lx.getD t default) * ent x c t j) r) (Kx + K + 1)) := by
  have hck := fun w => rchkE_ok w x r c gx.sh
  have hld := fun i j (hi : i < r) (hj : j < c) => gx.load hi hj
  have hab := fun i j (hi : i < r) (hj : j < c) => gx.ent_lt hi hj
  have hsx := gx.s
  have s1 := gx.sh
  have hlx := hs0.len
  clear gx
  generalize ent x c = F at *
  obtain ⟨xr, xc, A, n, k, l⟩ := x
  obtain ⟨hr1, hc1, hr, hcc, hn1⟩ := s1
  dsimp only at hr1 hc1 hn1 hsx hld
  subst hr1 hc1 hn1
  have hm1 := mul64 hr hcc
  obtain ⟨f, hf⟩ : ∃ f : Nat → Nat → Int, f = fun j t => ival (lx.getD t default) * F t j := ⟨_, rfl⟩
  have hfe : ∀ j t, f j t = ival (lx.getD t default) * F t j := fun j t => by rw [hf]
  have hfb : ∀ j t, j < c → t < r → (f j t).natAbs < 18446744073709551616 ^ (Kx + K) := fun j t hj ht => by
    rw [hfe]
    have e : lx[t]? = some (lx.getD t default) := by simp [List.getD, show t < lx.length by omega]
    obtain ⟨g1, n1⟩ := hg _ (List.mem_of_getElem? e)
    exact mul_lt (Nat.lt_of_lt_of_le g1.abs_lt (wpow_mono n1)) (hab t j ht hj)
  rw [show (fun j => psum (fun t => ival (lx.getD t default) * F t j) r) = fun j => psum (f j) r by rw [hf]]
  clear hf hab
  refine enter Tryz.func33 rfl rfl rfl ?_
  have hF := Fr.refl w
  repeat' (first | (refine TL.isOp ?_; first | (refine TL.isCall ?_; refine TL.call rfl rfl ?_; first | (refine (hck _).mono ?_; rintro _ wy ⟨rfl, hE⟩; replace hF := hF.exts hE; clear hE; refine Back.mk ?_)) | (refine TL.isBin ?_; refine TL.cmpG rfl rfl rfl rfl (fun hc => ?_) (fun hc => ?_) <;> (try (first | (exfalso; omega) | exact absurd rfl hc))) | (apply TL.ev; (case hd => rfl); (case h => (first | exact ev_simple rfl | (apply Ev.isLoad; first | exact ev_loadFr hF rfl (by refine ⟨?_, ?_⟩; (focus (repeat (first | exact InV.head | apply InV.tail))); rfl) | exact ev_loadAFr hF rfl (by refine ⟨?_, ?_⟩; (focus (repeat (first | exact InV.head | apply InV.tail))); rfl)) | exact ev_len rfl | exact ev_fieldAddr rfl))) | (refine TL.boxAFr hF (d := 3) (cs := [.int .i64 (r : Int), .int .i64 (c : Int), .slice A (r * c) k]) rfl rfl ?_; clear hF; intro w3 b3 hF) | (refine TL.makeFr hF ivc nought (d := 22) rfl rfl rfl (Nat.le_refl _) (by omega) rfl rfl rfl ?_; clear hF; intro w22 b22 hF)) | (refine T.is ?_; first | refine T.seq ?_ | refine T.region ?_ | refine T.block ?_ | refine T.cond_f rfl ?_ | refine T.skip ?_) | (refine G.is ?_; first | refine G.next ?_) | refine TL.nil ?_)
  refine T.loop (α := Nat × List IV) (fun x => [(0, .slice B r q0), (3, .pointer (some ⟨b3, 0, none⟩)), (7, .slice (some ⟨b22, 0, none⟩) c c), (8, .int .i64 (x.1 : Int))])
    (fun x w' => x.1 ≤ c ∧ x.2.length = c ∧ Fr w w' [⟨b22, 30, x.2.flatMap ivc⟩, ⟨b3, 27, [.int .i64 (r : Int), .int .i64 (c : Int), .slice A (r * c) k]⟩] [dpLK c x.2 (vcZ f r x.1 0) (Kx + K + 1)])
    (fun x => c - x.1) (0, List.replicate c nought) (by repeat (first | exact Sub.nil _ | refine Sub.cons rfl ?_ | refine Sub.cons' rfl (int_congr (by omega)) ?_)) ⟨Nat.zero_le _, List.length_replicate .., Fr.addLK hF ((lk_zeros _ _ _).congrN fun q _ => by unfold vcZ; rw [if_neg (Nat.not_lt_zero _)]; split <;> rfl)⟩ ?_
  clear hF
  rintro ⟨j, zl⟩ w2 ⟨hj, hzl, hF⟩
  dsimp only at hj hzl hF ⊢
  rcases Nat.lt_or_ge j c with hjn | hjn
  · repeat' (first | (refine TL.isOp ?_; first | (refine TL.isBin ?_; refine TL.cmpG rfl rfl rfl rfl (fun hc => ?_) (fun hc => ?_) <;> (try (first | (exfalso; omega) | exact absurd rfl hc))) | (apply TL.ev; (case hd => rfl); (case h => (first | exact ev_simple rfl | (apply Ev.isLoad; first | exact ev_loadFr hF rfl (by refine ⟨?_, ?_⟩; (focus (repeat (first | exact InV.head | apply InV.tail))); rfl)) | exact ev_fieldAddr rfl)))) | (refine T.is ?_; first | refine T.seq ?_ | refine T.region ?_ | refine T.block ?_ | refine T.cond_t rfl ?_ | refine T.skip ?_) | (refine G.is ?_; first | refine G.next ?_) | refine TL.nil ?_)
    refine T.loop (α := Nat × List IV) (fun x => [(0, .slice B r q0), (3, .pointer (some ⟨b3, 0, none⟩)), (7, .slice (some ⟨b22, 0, none⟩) c c), (8, .int .i64 (j : Int)), (9, .int .i64 (x.1 : Int))])
      (fun x w' => x.1 ≤ r ∧ x.2.length = c ∧ Fr w w' [⟨b22, 30, x.2.flatMap ivc⟩, ⟨b3, 27, [.int .i64 (r : Int), .int .i64 (c : Int), .slice A (r * c) k]⟩] [dpLK c x.2 (vcZ f r j x.1) (Kx + K + 1)])
      (fun x => r - x.1) (0, zl) (by repeat (first | exact Sub.nil _ | refine Sub.cons rfl ?_ | refine Sub.cons' rfl (int_congr (by omega)) ?_)) ⟨Nat.zero_le _, hzl, hF⟩ ?_
    clear hF hzl
    clear zl
    rintro ⟨t, zl⟩ w3 ⟨ht, hzl, hF⟩
    dsimp only at ht hzl hF ⊢
    rcases Nat.lt_or_ge t r with htn | htn
    · have hp1 := place_lt (i := t) (j := j) (r := r) (c := c) htn hjn
      obtain ⟨y1, hy1, g1, n1, v1⟩ := hld t j htn hjn
      have hx1 : lx[t]? = some (lx.getD t default) := by simp [List.getD, show t < lx.length by omega]
      obtain ⟨gx1, nx1⟩ := hg _ (List.mem_of_getElem? hx1)
      have hz1 : zl[j]? = some (zl.getD j default) := by simp [List.getD, show j < zl.length by omega]
      obtain ⟨gz1, nz1⟩ := Fr.lk hF (i := c) (l := zl) (Z := vcZ f r j t) (K := Kx + K + 1) (by repeat (first | exact memH | apply memT)) j hjn
      obtain ⟨y0, ey0⟩ : ∃ y, zl.getD j default = y := ⟨_, rfl⟩
      rw [ey0] at hz1 gz1 nz1
      have hv0 : vcZ f r j t j = psum (f j) t := by unfold vcZ; rw [if_neg (Nat.lt_irrefl _), if_pos rfl]
      rw [hv0] at gz1
      replace hF := Fr.addLI hF gz1
      have hst : ival (lx.getD t default) * ival y1 + ival y0 = psum (f j) (t + 1) := by
        rw [v1, gz1.val, ← hfe]; rfl
      have htt := psum_lt (f := f j) (m := t + 1) (k := Kx + K) (by omega) (fun q hq => hfb j q hjn (by omega))
      clear gz1
      generalize lx.getD t default = y2 at *
      have hsz : ∀ {H : Array Obj}, Sm 2 ivc H H.size (some ⟨b22, 0, none⟩) c c zl → Sm 2 ivc H H.size (some ⟨b22, 0, none⟩) c c zl := fun h => h
      repeat' (first | (refine TL.isOp ?_; first | (refine TL.isCall ?_; refine TL.call rfl rfl ?_; first | (refine (r5mulAdd_ok _ y2 y1 y0 (gx1.ext hF.ext) (g1.ext hF.ext) (Fr.li hF (x := y0) (by repeat (first | exact memH | apply memT))).g (by omega) (by omega) (by omega)).mono ?_; rintro _ wl ⟨u, rfl, hLu, hE, hKu⟩; rw [hst] at hLu; clear hKu; have hKu := hLu.nle htt; replace hF := Fr.addLI (hF.exts hE) hLu; clear hE hLu; refine Back.mk ?_)) | (refine TL.isBin ?_; refine TL.cmpG rfl rfl rfl rfl (fun hc => ?_) (fun hc => ?_) <;> (try (first | (exfalso; omega) | exact absurd rfl hc))) | (apply TL.ev; (case hd => rfl); (case h => (first | exact ev_simple rfl | (apply Ev.isBin; first | exact ev_arN rfl rfl rfl (by omega)) | (apply Ev.isLoad; first | exact ev_loadFr hF rfl (by refine ⟨?_, ?_⟩; (focus (repeat (first | exact InV.head | apply InV.tail))); rfl)) | exact ev_fieldAddr rfl))) | (refine TL.storeAtFr hF (f := ivc) (i := j) u rfl rfl rfl rfl (fun _ => rfl) (by rw [hzl]; exact hjn) (ivc_noV zl) (by repeat (first | apply SetV.head | apply SetV.tail)) ?_; clear hF; intro ws hF)) | (refine TF.is ?_; first | refine TF.nil ?_ | refine TF.e rfl ?_ | (refine TF.pick rfl ?_; first | (apply TFo.ev; (case hd => rfl); (case h => (intro wh hF; first | exact ev_simple rfl | (apply Ev.isBin; first | exact ev_arN rfl rfl rfl (by omega)) | (apply Ev.isLoad; first | exact ev_loadFr hF rfl (by refine ⟨?_, ?_⟩; (focus (repeat (first | exact InV.head | apply InV.tail))); rfl) | exact ev_loadM rfl (hsx.ext hF.ext) hy1 | exact ev_loadM rfl (hs0.ext hF.ext) hx1 | exact ev_loadM rfl (vr_sm (zs := []) (k := 2) (f := ivc) (n := c) (c := c) (by omega) (fun _ _ => rfl) (by rw [List.append_nil]; exact hF.var .head) hzl (Nat.le_refl _) (hF.var .head).lt) hz1) | exact ev_fieldAddr rfl | exact ev_indexM rfl rfl hp1 (hsx.ext hF.ext).some | exact ev_indexM rfl rfl htn (hs0.ext hF.ext).some | exact ev_indexM rfl rfl hjn (.inr rfl)))))) | (refine T.is ?_; first | refine T.seq ?_ | refine T.region ?_ | refine T.block ?_ | refine T.cond_t rfl ?_ | refine T.skip ?_ | (refine T.regionFr hF 13 22 (.s 0 (.s 1 (.s 2 (.s 3 (.s 4 (.s 5 (.s 6 (.s 7 (.s 8 (.s 9 (.s 10 (.s 11 (.s 12 (.s 13 (.s 14 (.s 15 (.s 16 (.s 17 (.s 18 (.s 19 (.e 20 (.s 21 (.e 22 .nil))))))))))))))))))))))) mixed (by kernel_rfl) ?_; clear hF; intro wr hF)) | (refine G.is ?_; first | refine G.next ?_ | refine G.blockN ?_ | refine G.only ?_ | refine G.treeEnd rfl ?_ | refine G.tree rfl (by first | exact hF | exact hF.weak (by repeat (first | exact List.Sublist.refl _ | apply List.Sublist.cons)) (by repeat (first | exact allR | apply allT)) | exact hF.weak (by repeat (first | exact List.Sublist.refl _ | apply List.Sublist.cons)) (by repeat (first | exact allN | refine allH (by repeat (first | exact memH | apply memT)) ?_))) ?_) | refine TL.nil ?_)
      have hk := (Fr.lk hF (i := c) (l := zl) (Z := vcZ f r j t) (by repeat (first | exact memH | apply memT))).setAtN (Z' := vcZ f r j (t + 1)) (u := u) (q := j) (by omega) (by unfold vcZ; rw [if_neg (Nat.lt_irrefl _), if_pos rfl]; exact Fr.li hF (by repeat (first | exact memH | apply memT))) (by omega) (fun p hp => by unfold vcZ; simp [hp])
      exact G.again (t + 1, zl.set j u) (by repeat (first | exact Sub.nil _ | refine Sub.cons rfl ?_ | refine Sub.cons' rfl (int_congr (by omega)) ?_)) ⟨by dsimp only; omega, by rw [List.length_set]; exact hzl, Fr.addLK (hF.weak (List.Sublist.refl _) allN) hk⟩ (by dsimp only; omega)
    · obtain rfl : t = r := by omega
      repeat' (first | (refine TL.isOp ?_; first | (refine TL.isBin ?_; refine TL.cmpG rfl rfl rfl rfl (fun hc => ?_) (fun hc => ?_) <;> (try (first | (exfalso; omega) | exact absurd rfl hc))) | (apply TL.ev; (case hd => rfl); (case h => (first | exact ev_simple rfl | (apply Ev.isBin; first | exact ev_arN rfl rfl rfl (by omega)) | (apply Ev.isLoad; first | exact ev_loadFr hF rfl (by refine ⟨?_, ?_⟩; (focus (repeat (first | exact InV.head | apply InV.tail))); rfl)) | exact ev_fieldAddr rfl)))) | (refine T.is ?_; first | refine T.seq ?_ | refine T.region ?_ | refine T.cond_f rfl ?_ | refine T.exit ?_) | (refine G.is ?_; first | refine G.next ?_ | refine G.blockN ?_ | refine G.blockE ?_ | refine G.thenE ?_) | refine TL.nil ?_)
      exact G.again (j + 1, zl) (by repeat (first | exact Sub.nil _ | refine Sub.cons rfl ?_ | refine Sub.cons' rfl (int_congr (by omega)) ?_)) ⟨by dsimp only; omega, hzl, Fr.addLK (hF.weak (List.Sublist.refl _) allN) ((Fr.lk hF (i := c) (l := zl) (by repeat (first | exact memH | apply memT))).congrN fun p hp => by unfold vcZ; by_cases h1 : p < j <;> by_cases h2 : p = j <;> simp [h1, h2, psum] <;> omega)⟩ (by dsimp only; omega)
  · obtain rfl : j = c := by omega
    repeat' (first | (refine TL.isOp ?_; first | (refine TL.isBin ?_; refine TL.cmpG rfl rfl rfl rfl (fun hc => ?_) (fun hc => ?_) <;> (try (first | (exfalso; omega) | exact absurd rfl hc))) | (apply TL.ev; (case hd => rfl); (case h => (first | exact ev_simple rfl | (apply Ev.isLoad; first | exact ev_loadFr hF rfl (by refine ⟨?_, ?_⟩; (focus (repeat (first | exact InV.head | apply InV.tail))); rfl)) | exact ev_fieldAddr rfl)))) | (refine T.is ?_; first | refine T.seq ?_ | refine T.region ?_ | refine T.cond_f rfl ?_ | refine T.exit ?_ | refine T.ret ?_) | (refine G.is ?_; first | refine G.next ?_ | refine G.blockE ?_ | refine G.thenE ?_) | refine TL.nil ?_)
    have hb := (hF.lo (b := b22) (by repeat (first | exact InV.head | apply InV.tail))).resolve_right id
    exact G.ret2 rfl rfl rfl ⟨_, _, zl, rfl, ⟨vr_sm (zs := []) (by omega) (fun _ _ => rfl) (by rw [List.append_nil]; exact hF.var .head) hzl (Nat.le_refl _) (hF.var .head).lt, (Fr.lk hF (by repeat (first | exact memH | apply memT))).congrN fun q hq => by unfold vcZ; rw [if_pos hq]⟩, hF.ext, .inr ⟨b22, rfl, hb⟩⟩
theorem rvec_unfit (w : World) (B : Option Addr) (m q : Nat) (x : MV) (r c : Nat) (gx : Sound x r c) (hne : m ≠ r) : Cl Tryz.prog 33 #[.slice B m q, .agg (mvc x).toArray] w (RetLF w 2) := by
  have hck := fun w => rchkE_ok w x r c gx
  have e1 := gx.er
  have e2 := gx.ec
  clear gx
  obtain ⟨xr, xc, A, n, k, l⟩ := x
  dsimp only at e1 e2
  subst e1 e2
  refine enter Tryz.func33 rfl rfl rfl ?_
  have hF := Fr.refl w
  repeat' (first | (refine TL.isOp ?_; first | (refine TL.isCall ?_; refine TL.call rfl rfl ?_; first | (refine (hck _).mono ?_; rintro _ wy ⟨rfl, hE⟩; replace hF := hF.exts hE; clear hE; refine Back.mk ?_)) | (refine TL.isBin ?_; refine TL.cmpG rfl rfl rfl rfl (fun hc => ?_) (fun hc => ?_) <;> (try (first | (exfalso; omega) | exact absurd rfl hc))) | (apply TL.ev; (case hd => rfl); (case h => (first | exact ev_simple rfl | (apply Ev.isLoad; first | exact ev_loadFr hF rfl (by refine ⟨?_, ?_⟩; (focus (repeat (first | exact InV.head | apply InV.tail))); rfl) | exact ev_loadAFr hF rfl (by refine ⟨?_, ?_⟩; (focus (repeat (first | exact InV.head | apply InV.tail))); rfl)) | exact ev_len rfl | exact ev_fieldAddr rfl))) | (refine TL.boxAFr hF (d := 3) (cs := [.int .i64 (r : Int), .int .i64 (c : Int), .slice A n k]) rfl rfl ?_; clear hF; intro w3 b3 hF)) | (refine T.is ?_; first | refine T.seq ?_ | refine T.region ?_ | refine T.cond_t rfl ?_ | refine T.cond_f rfl ?_ | refine T.ret ?_ | refine T.skip ?_) | (refine G.is ?_; first | refine G.next ?_ | refine G.thenR ?_) | refine TL.nil ?_)
  exact G.ret2 rfl rfl rfl ⟨rfl, hF.ext⟩
theorem rvec_bad (w : World) (B : Option Addr) (m q : Nat) (x : MV) (h : ¬ Snd x) : Cl Tryz.prog 33 #[.slice B m q, .agg (mvc x).toArray] w (RetLF w 1) := by
  have hck := fun w => rchk_any w x (.inr ⟨h, rfl⟩)
  clear h
  obtain ⟨xr, xc, A, n, k, l⟩ := x
  refine enter Tryz.func33 rfl rfl rfl ?_
  have hF := Fr.refl w
  repeat' (first | (refine TL.isOp ?_; first | (refine TL.isCall ?_; refine TL.call rfl rfl ?_; first | (refine (hck _).mono ?_; rintro _ wy ⟨rfl, hE⟩; replace hF := hF.exts hE; clear hE; refine Back.mk ?_)) | (refine TL.isBin ?_; refine TL.cmpG rfl rfl rfl rfl (fun hc => ?_) (fun hc => ?_) <;> (try (first | (exfalso; omega) | exact absurd rfl hc))) | (apply TL.ev; (case hd => rfl); (case h => (first | exact ev_simple rfl | (apply Ev.isLoad; first | exact ev_loadAFr hF rfl (by refine ⟨?_, ?_⟩; (focus (repeat (first | exact InV.head | apply InV.tail))); rfl))))) | (refine TL.boxAFr hF (d := 3) (cs := [.int .i64 xr, .int .i64 xc, .slice A n k]) rfl rfl ?_; clear hF; intro w3 b3 hF)) | (refine T.is ?_; first | refine T.seq ?_ | refine T.region ?_ | refine T.cond_t rfl ?_ | refine T.ret ?_) | (refine G.is ?_; first | refine G.next ?_ | refine G.thenR ?_) | refine TL.nil ?_)
  exact G.ret2 rfl rfl rfl ⟨rfl, hF.ext⟩
end Go.Proofs.YtlhmehikajidhaaGreat
namespace Go.Proofs.YtlhmehikajidhaaGreat
open Go Go.Eng Go.Proofs Go.NatM Go.RowKit
theorem mpw_lt {F : Nat → Nat → Int} {n K : Nat} (hn : n ≤ 64) (hF : ∀ i j, i < n → j < n → (F i j).natAbs < 18446744073709551616 ^ K) : ∀ e i j, i < n → j < n → (mpw F n e i j).natAbs < 18446744073709551616 ^ ((K + 1) * e + 1)
  | 0, i, j, _, _ => by
    simp only [mpw]
    have : 1 < 18446744073709551616 ^ ((K + 1) * 0 + 1) := by rw [Nat.mul_zero]; decide
    split
    · exact this
    · exact Nat.lt_trans (by decide) this
  | e + 1, i, j, hi, hj => by
    simp only [mpw]
    have h := psum_lt (f := fun q => mpw F n e i q * F q j) (k := (K + 1) * e + 1 + K) hn (fun q hq => mul_lt (mpw_lt hn hF e i q hi hq) (hF q j hq hj))
    have e1 : (K + 1) * e + 1 + K + 1 = (K + 1) * (e + 1) + 1 := by rw [Nat.mul_add]; omega
    rw [e1] at h
    exact h
set_option maxRecDepth 100000 in
theorem rpow_ok (w : World) (x : MV) (n K N : Nat) (gx : GM w.heap x n n K) (hK : K ≤ 1048576) (hN : N ≤ 256) :
    Cl Tryz.prog 34 #[.agg (mvc x).toArray, .int .i64 (N : Int)] w (RetME w n n (mpw (ent x n) n N) ((K + 1) * 256 + 1)) := by
  have hck := fun w => rchkE_ok w x n n gx.sh
  have hn := gx.sh.r64
  have hlt := mpw_lt (F := ent x n) (K := K) hn (fun i j hi hj => gx.ent_lt hi hj)
  have hone : ∀ i j, i < n → j < n → ent x n i j = mpw (ent x n) n 1 i j := fun i j hi hj => (mpw_one _ hi).symm
  have hfam := mpw_fam (ent x n) n
  have hb : ∀ e, e ≤ 256 → (K + 1) * e + 1 ≤ (K + 1) * 256 + 1 := fun e he => by have := Nat.mul_le_mul_left (K + 1) he; omega
  have hbig : (K + 1) * 256 + 1 ≤ 300000000 := by omega
  obtain ⟨P, hP⟩ : ∃ P, P = mpw (ent x n) n := ⟨_, rfl⟩
  rw [← hP] at hlt hone hfam ⊢
  have gx0 := gx
  have e1 := gx.sh.er
  have e2 := gx.sh.ec
  clear gx hP
  obtain ⟨xr, xc, A, m, k, l⟩ := x
  dsimp only at e1 e2
  subst e1 e2
  refine enter Tryz.func34 rfl rfl rfl ?_
  have hF := (Fr.refl w).add (dpGM ⟨n, n, A, m, k, l⟩ n n K) (by unfold dpGM; exact gx0) (fun _ h => (by cases h))
  clear gx0
  repeat' (first | (refine TL.isOp ?_; first | (refine TL.isCall ?_; refine TL.call rfl rfl ?_; first | (refine (hck _).mono ?_; rintro _ wy ⟨rfl, hE⟩; replace hF := hF.exts hE; clear hE; refine Back.mk ?_) | (refine (runit_ok _ n hn).mono ?_; rintro _ wu ⟨⟨pr, pc, pA, pn, pk, pl⟩, rfl, hLu, hE, hf⟩; replace hLu := (hLu.congr (fun i j hi hj => (hfam.one i j hi hj).symm)).tight (k := (K + 1) * 0 + 1) (hlt 0); have hfu := hf.mono hF.ext.size; replace hF := Fr.addLM hF hE hLu hf; clear hE hf hLu; refine Back.mk ?_)) | (refine TL.isBin ?_; refine TL.cmpG rfl rfl rfl rfl (fun hc => ?_) (fun hc => ?_) <;> (try (first | (exfalso; omega) | exact absurd rfl hc))) | (apply TL.ev; (case hd => rfl); (case h => (first | exact ev_simple rfl | (apply Ev.isLoad; first | exact ev_loadFr hF rfl (by refine ⟨?_, ?_⟩; (focus (repeat (first | exact InV.head | apply InV.tail))); rfl) | exact ev_loadAFr hF rfl (by refine ⟨?_, ?_⟩; (focus (repeat (first | exact InV.head | apply InV.tail))); rfl)) | exact ev_fieldAddr rfl))) | (refine TL.storeAFr hF rfl rfl rfl rfl (by refine ⟨?_, ?_⟩; (focus (repeat (first | apply SetV.head | apply SetV.tail))); rfl) rfl ?_; clear hF; intro ws hF) | (refine TL.boxAFr hF (d := 2) (cs := [.int .i64 (n : Int), .int .i64 (n : Int), .slice A m k]) rfl rfl ?_; clear hF; intro w2 b2 hF) | (refine TL.allocFr hF (d := 4) rfl rfl ?_; clear hF; intro w4 b4 hF) | (refine TL.allocFr hF (d := 7) rfl rfl ?_; clear hF; intro w7 b7 hF) | (refine TL.allocFr hF (d := 9) rfl rfl ?_; clear hF; intro w9 b9 hF)) | (refine T.is ?_; first | refine T.seq ?_ | refine T.region ?_ | refine T.block ?_ | refine T.cond_f rfl ?_ | refine T.skip ?_) | (refine G.is ?_; first | refine G.next ?_) | refine TL.nil ?_)
  refine T.loop (α := (Nat × Nat × Nat) × MV × MV) (fun x => [(1, .int .i64 (x.1.1 : Int)), (2, .pointer (some ⟨b2, 0, none⟩)), (4, .pointer (some ⟨b4, 0, none⟩)), (7, .pointer (some ⟨b7, 0, none⟩)), (9, .pointer (some ⟨b9, 0, none⟩))])
    (fun x w' => x.1.2.1 + x.1.2.2 * x.1.1 = N ∧ x.1.1 ≤ N ∧ (0 < x.1.1 → x.1.2.2 ≤ N) ∧ MF w x.2.1 ∧ (∀ i j, i < n → j < n → ent x.2.2 n i j = P x.1.2.2 i j) ∧ Fr w w' [⟨b9, 27, mvc x.2.2⟩, ⟨b7, 27, mvc x.2.1⟩, ⟨b4, 27, [.int .i64 0, .int .i64 0, .slice none 0 0]⟩, ⟨b2, 27, [.int .i64 (n : Int), .int .i64 (n : Int), .slice A m k]⟩] [dpLM x.2.1 n n (P x.1.2.1) ((K + 1) * x.1.2.1 + 1), dpGM x.2.2 n n ((K + 1) * x.1.2.2 + 1)])
    (fun x => x.1.1) ((N, 0, 1), ⟨pr, pc, pA, pn, pk, pl⟩, ⟨n, n, A, m, k, l⟩) (by repeat (first | exact Sub.nil _ | refine Sub.cons rfl ?_ | refine Sub.cons' rfl (int_congr (by omega)) ?_)) ⟨by dsimp only; omega, Nat.le_refl _, fun h => (by dsimp only at h ⊢; omega), hfu, hone, (hF.add (dpGM ⟨n, n, A, m, k, l⟩ n n ((K + 1) * 1 + 1)) (by have h := Fr.gm hF (x := ⟨n, n, A, m, k, l⟩) (r := n) (c := n) (K := K) (by repeat (first | exact memH | apply memT)); unfold dpGM; exact ⟨h.sh, h.s, fun y hy => ⟨(h.g y hy).1, by have := (h.g y hy).2; omega⟩⟩) (fun v hv hk => hF.apart v hv (dpGM ⟨n, n, A, m, k, l⟩ n n K) (by repeat (first | exact memH | apply memT)) (by unfold dpGM at hk ⊢; exact hk))).weak (.refl _) (allH (by repeat (first | exact memH | apply memT)) (allH (by repeat (first | exact memH | apply memT)) allN))⟩ ?_
  clear hF hfu
  clear pr pc pA pn pk pl
  rintro ⟨⟨h, u, v⟩, ⟨pr, pc, pA, pn, pk, pl⟩, ⟨sr, sc, sA, sn, sk, sl⟩⟩ w2 ⟨hinv, hhN, hvN, hfp, hse, hF⟩
  dsimp only at hinv hhN hvN hfp hse hF ⊢
  rcases Nat.eq_zero_or_pos h with h0 | h0
  · subst h0
    obtain rfl : u = N := by omega
    repeat' (first | (refine TL.isOp ?_; first | (refine TL.isBin ?_; refine TL.cmpG rfl rfl rfl rfl (fun hc => ?_) (fun hc => ?_) <;> (try (first | (exfalso; omega) | exact absurd rfl hc))) | (apply TL.ev; (case hd => rfl); (case h => (first | exact ev_simple rfl | (apply Ev.isLoad; first | exact ev_loadAFr hF rfl (by refine ⟨?_, ?_⟩; (focus (repeat (first | exact InV.head | apply InV.tail))); rfl))))) | (refine TL.storeAFr hF rfl rfl rfl rfl (by refine ⟨?_, ?_⟩; (focus (repeat (first | apply SetV.head | apply SetV.tail))); rfl) rfl ?_; clear hF; intro ws hF)) | (refine T.is ?_; first | refine T.seq ?_ | refine T.region ?_ | refine T.cond_f rfl ?_ | refine T.exit ?_ | refine T.ret ?_) | (refine G.is ?_; first | refine G.next ?_ | refine G.blockE ?_ | refine G.thenE ?_) | refine TL.nil ?_)
    exact G.retC2 rfl rfl rfl (held_agg (hF.var (by repeat (first | exact InV.head | apply InV.tail))) rfl) ⟨⟨pr, pc, pA, pn, pk, pl⟩, rfl, (Fr.lm hF (by repeat (first | exact memH | apply memT))).more (hb u hN), hF.ext, hfp⟩
  · have hv := hvN h0
    have huN : u ≤ N := by omega
    have hu1 := hb u (by omega)
    have hv1 := hb v (by omega)
    have hdm := Nat.div_add_mod h 2
    have hvh : v * h = v * (h % 2) + (v + v) * (h / 2) := by
      have e : v * h = v * (2 * (h / 2) + h % 2) := by rw [hdm]
      rw [e, Nat.mul_add, Nat.add_mul, ← Nat.mul_assoc, Nat.mul_comm v 2, Nat.mul_assoc, Nat.two_mul]; omega
    have hps : ∀ i j, i < n → j < n → psum (fun q => ent ⟨pr, pc, pA, pn, pk, pl⟩ n i q * ent ⟨sr, sc, sA, sn, sk, sl⟩ n q j) n = P (u + v) i j := fun i j hi hj => by
      rw [← hfam.mul u v i j hi hj]
      exact psum_congr fun q hq => by rw [(Fr.lm hF (x := ⟨pr, pc, pA, pn, pk, pl⟩) (F := P u) (by repeat (first | exact memH | apply memT))).ent hi hq, hse q j hq hj]
    have hss : ∀ i j, i < n → j < n → psum (fun q => ent ⟨sr, sc, sA, sn, sk, sl⟩ n i q * ent ⟨sr, sc, sA, sn, sk, sl⟩ n q j) n = P (v + v) i j := fun i j hi hj => by
      rw [← hfam.mul v v i j hi hj]
      exact psum_congr fun q hq => by rw [hse i q hi hq, hse q j hq hj]
    have hodd : h % 2 = 1 → u + v + (v + v) * (h / 2) = N := fun e => by rw [e, Nat.mul_one] at hvh; omega
    have hevn : h % 2 ≠ 1 → u + (v + v) * (h / 2) = N := fun e => by rw [show h % 2 = 0 by omega, Nat.mul_zero] at hvh; omega
    have hgt : 0 < h / 2 → v + v ≤ (v + v) * (h / 2) := fun e => Nat.le_mul_of_pos_right _ e
    have hzr : h / 2 = 0 → (v + v) * (h / 2) = 0 := fun e => by rw [e, Nat.mul_zero]
    have hinv1 : h % 2 = 1 → u + v + (v + v) * (h / 2) = N := hodd
    have hinv2 : h % 2 = 1 → h / 2 = 0 → u + v + v * (h / 2) = N := fun a b => by have := hodd a; rw [b] at this ⊢; simpa using this
    have hinv3 : h % 2 ≠ 1 → u + (v + v) * (h / 2) = N := hevn
    have hinv4 : h % 2 ≠ 1 → h / 2 = 0 → u + v * (h / 2) = N := fun a b => by have := hevn a; rw [b] at this ⊢; simpa using this
    obtain ⟨a, ha⟩ : ∃ a, a = (v + v) * (h / 2) := ⟨_, rfl⟩
    rw [← ha] at hodd hevn hgt hzr hvh
    clear ha
    repeat' (first | (refine TL.isOp ?_; first | (refine TL.isCall ?_; refine TL.call rfl rfl ?_; first | (refine (rmul_ok _ ⟨pr, pc, pA, pn, pk, pl⟩ ⟨sr, sc, sA, sn, sk, sl⟩ n n n ((K + 1) * u + 1) ((K + 1) * v + 1) (Fr.lm hF (by repeat (first | exact memH | apply memT))).gm (Fr.gm hF (by repeat (first | exact memH | apply memT))) (by omega) (by omega)).mono ?_; rintro _ wz ⟨⟨zr, zc, zA, zn, zk, zl⟩, rfl, hLz, hE, hf⟩; replace hLz := (hLz.congr hps).tight (hlt (u + v)); have hfz := hf.mono hF.ext.size; replace hF := Fr.addLM hF hE hLz hf; clear hE hf hLz; refine Back.mk ?_) | (refine (rmul_ok _ ⟨sr, sc, sA, sn, sk, sl⟩ ⟨sr, sc, sA, sn, sk, sl⟩ n n n ((K + 1) * v + 1) ((K + 1) * v + 1) (Fr.gm hF (by repeat (first | exact memH | apply memT))) (Fr.gm hF (by repeat (first | exact memH | apply memT))) (by omega) (by omega)).mono ?_; rintro _ wz ⟨⟨tr, tc, tA, tn, tk, tl⟩, rfl, hLt, hE, hf⟩; replace hLt := (hLt.congr hss).tight (hlt (v + v)); have hte := fun i j hi hj => hLt.ent (i := i) (j := j) hi hj; replace hF := (Fr.addLM hF hE hLt hf).add (dpGM ⟨tr, tc, tA, tn, tk, tl⟩ n n ((K + 1) * (v + v) + 1)) (by unfold dpGM; exact hLt.gm) (fun x hx hk => (Fr.addLM hF hE hLt hf).apart x hx (dpLM ⟨tr, tc, tA, tn, tk, tl⟩ n n (P (v + v)) ((K + 1) * (v + v) + 1)) memH (by unfold dpLM dpGM at *; exact hk)); clear hE hf hLt; refine Back.mk ?_)) | (refine TL.isBin ?_; refine TL.cmpG rfl rfl rfl rfl (fun hc => ?_) (fun hc => ?_) <;> (try (first | (exfalso; omega) | exact absurd rfl hc))) | (apply TL.ev; (case hd => rfl); (case h => (first | exact ev_simple rfl | (apply Ev.isBin; first | exact ev_arN rfl rfl rfl (by omega)) | (apply Ev.isLoad; first | exact ev_loadAFr hF rfl (by refine ⟨?_, ?_⟩; (focus (repeat (first | exact InV.head | apply InV.tail))); rfl))))) | (refine TL.storeAFr hF rfl rfl rfl rfl (by refine ⟨?_, ?_⟩; (focus (repeat (first | apply SetV.head | apply SetV.tail))); rfl) rfl ?_; clear hF; intro ws hF)) | (refine T.is ?_; first | refine T.seq ?_ | refine T.region ?_ | refine T.block ?_ | refine T.cond_t rfl ?_ | refine T.cond_f rfl ?_ | refine T.skip ?_) | (refine G.is ?_; first | refine G.next ?_ | refine G.blockN ?_) | refine TL.nil ?_)
    · exact G.again ((h / 2, u + v, v + v), ⟨zr, zc, zA, zn, zk, zl⟩, ⟨tr, tc, tA, tn, tk, tl⟩) (by repeat (first | exact Sub.nil _ | refine Sub.cons rfl ?_ | refine Sub.cons' rfl (int_congr (by omega)) ?_)) ⟨hinv1 (by omega), by dsimp only; omega, fun _ => (by dsimp only; have := hodd (by omega); have := hgt (by omega); omega), hfz, hte, hF.weak (.refl _) (allH (by repeat (first | exact memH | apply memT)) (allH (by repeat (first | exact memH | apply memT)) allN))⟩ (by dsimp only; omega)
    · exact G.again ((h / 2, u + v, v), ⟨zr, zc, zA, zn, zk, zl⟩, ⟨sr, sc, sA, sn, sk, sl⟩) (by repeat (first | exact Sub.nil _ | refine Sub.cons rfl ?_ | refine Sub.cons' rfl (int_congr (by omega)) ?_)) ⟨hinv2 (by omega) (by omega), by dsimp only; omega, fun h' => absurd h' (by dsimp only; omega), hfz, hse, hF.weak (.refl _) (allH (by repeat (first | exact memH | apply memT)) (allH (by repeat (first | exact memH | apply memT)) allN))⟩ (by dsimp only; omega)
    · exact G.again ((h / 2, u, v + v), ⟨pr, pc, pA, pn, pk, pl⟩, ⟨tr, tc, tA, tn, tk, tl⟩) (by repeat (first | exact Sub.nil _ | refine Sub.cons rfl ?_ | refine Sub.cons' rfl (int_congr (by omega)) ?_)) ⟨hinv3 (by omega), by dsimp only; omega, fun _ => (by dsimp only; have := hevn (by omega); have := hgt (by omega); omega), hfp, hte, hF.weak (.refl _) (allH (by repeat (first | exact memH | apply memT)) (allH (by repeat (first | exact memH | apply memT)) allN))⟩ (by dsimp only; omega)
end Go.Proofs.YtlhmehikajidhaaGreat
namespace Go.Eng
open Go Go.RowKit
class UArr (P : Program) (t : TypeId) (n e : outParam Nat) : Prop where
  out : P.underlying t = some (.array n e)
section
variable {P : Program} {σ : Store} {H : Array Obj} {d : Option Tmp} {t : TypeId} {pos : String} {af : Array Edge} {gd : Option (Nat × Bool)}
end
end Go.Eng
namespace Go.Proofs.YtlhmehikajidhaaGreat
open Go Go.Eng Go.Proofs
instance : UArr Tryz.prog 128 0 16 := ⟨Tryz.underlying128⟩
end Go.Proofs.YtlhmehikajidhaaGreat
namespace Go.Eng
open Go Go.RowKit
section
variable {P : Program} {σ : Store} {H : Array Obj} {d : Option Tmp} {t : TypeId} {pos : String} {af : Array Edge} {gd : Option (Nat × Bool)}
end
end Go.Eng
namespace Go.Proofs.YtlhmehikajidhaaGreat
open Go Go.Eng Go.Proofs Go.NatM Go.RowKit
theorem dm_lt {i r p : Nat} (h : i < r * p) : i / p < r ∧ i % p < p := by
  have hp : 0 < p := by
    rcases Nat.eq_zero_or_pos p with h0 | h0
    · rw [h0, Nat.mul_zero] at h; omega
    · exact h0
  exact ⟨Nat.div_lt_of_lt_mul (by rw [Nat.mul_comm]; exact h), Nat.mod_lt _ hp⟩
set_option maxRecDepth 100000 in
theorem kron1_ok (w : World) (r c p q i j Kx Ky : Nat) (A A' : Option Addr) (k k' : Nat) (l l' : List IV) (pa pb : Nat) (gx : GM w.heap ⟨r, c, A, r * c, k, l⟩ r c Kx) (gy : GM w.heap ⟨p, q, A', p * q, k', l'⟩ p q Ky) (hx : Kx ≤ 8796093022000) (hy : Ky ≤ 8796093022000)
    (hpa : Vr w.heap pa 27 (mvc ⟨r, c, A, r * c, k, l⟩)) (hpb : Vr w.heap pb 27 (mvc ⟨p, q, A', p * q, k', l'⟩)) (hi : i < r * p) (hj : j < c * q) (hi64 : i ≤ 64) (hj64 : j ≤ 64) :
    Cl Tryz.prog 94 #[.int .i64 (i : Int), .int .i64 (j : Int), .pointer (some ⟨pa, 0, none⟩), .pointer (some ⟨pb, 0, none⟩)] w (RetZ w (ival (l.getD (i / p * c + j / q) default) * ival (l'.getD (i % p * q + j % q) default)) (Kx + Ky)) := by
  have hm1 := mul64 gx.sh.r64 gx.sh.c64
  have hm2 := mul64 gy.sh.r64 gy.sh.c64
  have hs := gx.s
  have hs' := gy.s
  have hlen := hs.len
  have hlen' := hs'.len
  dsimp only at hs hs' hlen hlen'
  rw [mvc_mk] at hpa hpb
  obtain ⟨i1, i2⟩ := dm_lt hi
  obtain ⟨j1, j2⟩ := dm_lt hj
  have hp1 := place_lt i1 j1
  have hp2 := place_lt i2 j2
  have ha1 := Nat.le_add_right (i / p * c) (j / q)
  have ha2 := Nat.le_add_right (i % p * q) (j % q)
  have hb1 : i / p * c ≤ 4096 := by omega
  have hb2 : i % p * q ≤ 4096 := by omega
  have hb3 : i / p * c + j / q ≤ 4096 := by omega
  have hb4 : i % p * q + j % q ≤ 4096 := by omega
  have hp0 : 0 < p := by omega
  have hq0 : 0 < q := by omega
  have y1 : l[i / p * c + j / q]? = some (l.getD (i / p * c + j / q) default) := by simp [List.getD, show i / p * c + j / q < l.length by omega]
  have y2 : l'[i % p * q + j % q]? = some (l'.getD (i % p * q + j % q) default) := by simp [List.getD, show i % p * q + j % q < l'.length by omega]
  obtain ⟨g1, n1⟩ := gx.g _ (List.mem_of_getElem? y1)
  obtain ⟨g2, n2⟩ := gy.g _ (List.mem_of_getElem? y2)
  generalize l.getD (i / p * c + j / q) default = x1 at *
  generalize l'.getD (i % p * q + j % q) default = x2 at *
  refine enter Tryz.func94 rfl rfl rfl ?_
  have hF := Fr.refl w
  repeat' (first | (refine TL.isOp ?_; first | (refine TL.isCall ?_; refine TL.call rfl rfl ?_; first | (refine (zmul_ok _ x1 x2 (g1.ext hF.ext) (g2.ext hF.ext) (by omega) (by omega)).mono ?_; rintro _ wm ⟨s', rfl, hLm, hE, hKm⟩; replace hF := Fr.addLI (hF.exts hE) hLm; clear hE; refine Back.mk ?_)) | (refine TL.storeAFr hF rfl rfl rfl rfl (by refine ⟨?_, ?_⟩; (focus (repeat (first | apply SetV.head | apply SetV.tail))); rfl) rfl ?_; clear hF; intro ws hF) | (refine TL.allocFr hF (d := 6) rfl rfl ?_; clear hF; intro w6 b6 hF) | (refine TL.allocFr hF (d := 7) rfl rfl ?_; clear hF; intro w7 b7 hF)) | (refine TF.is ?_; first | refine TF.nil ?_ | refine TF.e rfl ?_ | (refine TF.pick rfl ?_; first | (apply TFo.ev; (case hd => rfl); (case h => (intro wh hF; first | exact ev_simple rfl | (apply Ev.isBin; first | exact ev_arN rfl rfl rfl (by omega)) | (apply Ev.isLoad; first | exact ev_loadAFr hF rfl (by refine ⟨?_, ?_⟩; (focus (repeat (first | exact InV.head | apply InV.tail))); rfl) | exact ev_loadV rfl (hpa.ext hF.ext) rfl | exact ev_loadV rfl (hpb.ext hF.ext) rfl | exact ev_loadM rfl (hs.ext hF.ext) y1 | exact ev_loadM rfl (hs'.ext hF.ext) y2) | exact ev_fieldAddr rfl | exact ev_indexM rfl rfl hp1 (hs.ext hF.ext).some | exact ev_indexM rfl rfl hp2 (hs'.ext hF.ext).some))))) | (refine T.is ?_; first | refine T.seq ?_ | refine T.region ?_ | refine T.ret ?_ | (refine T.regionFr hF 1 17 (.s 0 (.s 1 (.s 2 (.s 3 (.s 4 (.s 5 (.s 6 (.s 7 (.s 8 (.s 9 (.s 10 (.s 11 (.s 12 (.s 13 (.s 14 (.s 15 (.e 16 (.e 17 .nil)))))))))))))))))) mixed (by kernel_rfl) ?_; clear hF; intro wr hF) | (refine T.regionFr hF 2 18 (.s 0 (.s 1 (.s 2 (.s 3 (.s 4 (.s 5 (.s 6 (.s 7 (.s 8 (.s 9 (.s 10 (.s 11 (.s 12 (.s 13 (.s 14 (.s 15 (.s 16 (.e 17 (.e 18 .nil))))))))))))))))))) mixed (by kernel_rfl) ?_; clear hF; intro wr hF)) | (refine G.is ?_; first | refine G.next ?_ | refine G.only ?_ | refine G.treeEnd rfl ?_ | refine G.tree rfl (by first | exact hF | exact hF.weak (by repeat (first | exact List.Sublist.refl _ | apply List.Sublist.cons)) (by repeat (first | exact allR | apply allT)) | exact hF.weak (by repeat (first | exact List.Sublist.refl _ | apply List.Sublist.cons)) (by repeat (first | exact allN | refine allH (by repeat (first | exact memH | apply memT)) ?_))) ?_) | refine TL.nil ?_)
  exact G.retC1 rfl rfl (held_agg (hF.var (by repeat (first | exact InV.head | apply InV.tail))) rfl) ⟨s', rfl, Fr.li hF (by repeat (first | exact memH | apply memT)), hF.ext, by omega⟩
set_option maxRecDepth 100000 in
theorem mkron_ok (w : World) (x y : MV) (r c p q R C Kx Ky : Nat) (gx : GM w.heap x r c Kx) (gy : GM w.heap y p q Ky) (hx : Kx ≤ 8796093022000) (hy : Ky ≤ 8796093022000) (hR : R = r * p) (hC : C = c * q) (hR64 : R ≤ 64) (hC64 : C ≤ 64) :
    Cl Tryz.prog 53 #[.agg (mvc x).toArray, .agg (mvc y).toArray] w (RetME w R C (fun i j => ent x c (i / p) (j / q) * ent y q (i % p) (j % q)) (Kx + Ky)) := by
  have hsd := sound_two gx.sh gy.sh
  obtain ⟨xr, xc, A, n, k, l⟩ := x
  obtain ⟨yr, yc, A', n', k', l'⟩ := y
  obtain ⟨h1, h2, h3, h4, h5⟩ := id gx.sh
  obtain ⟨h1', h2', h3', h4', h5'⟩ := id gy.sh
  dsimp only at h1 h2 h5 h1' h2' h5'
  subst h1 h2 h5 h1' h2' h5'
  have hm1 := mul64 h3 h3'
  have hm2 := mul64 h4 h4'
  subst hR hC
  have hs1 : decide ((0 : Int) ≤ ((r * p : Nat) : Int) ∧ ((r * p : Nat) : Int) ≤ 64) = true := decide_eq_true (by omega)
  have hs2 : decide ((0 : Int) ≤ ((c * q : Nat) : Int) ∧ ((c * q : Nat) : Int) ≤ 64) = true := decide_eq_true (by omega)
  refine enter Tryz.func53 rfl rfl rfl ?_
  have hF := Fr.refl w
  repeat' (first | (refine TL.isOp ?_; first | (refine TL.isG ?_; first | refine TL.grun rfl rfl rfl ?_) | (refine TL.isCall ?_; refine TL.call rfl rfl ?_; first | (refine (check_ok _ _ _ _ _ hSn hsd (by omega)).mono ?_; rintro _ wc ⟨rfl, hE⟩; clear hSn; replace hF := hF.exts hE; clear hE; refine Back.mk ?_) | (refine (side_ok _ _ _ hs1).clX.mono ?_; rintro _ wc ⟨rfl, _, hE⟩; replace hF := hF.exts hE; clear hE; refine Back.mk ?_) | (refine (side_ok _ _ _ hs2).clX.mono ?_; rintro _ wc ⟨rfl, _, hE⟩; replace hF := hF.exts hE; clear hE; refine Back.mk ?_) | (refine (build_ok _ (r * p) (c * q) hR64 hC64 94 [.pointer (some ⟨b2, 0, none⟩), .pointer (some ⟨b3, 0, none⟩)] inferInstance (fun i j => ival (l.getD (i / p * c + j / q) default) * ival (l'.getD (i % p * q + j % q) default)) (Kx + Ky) (fun i j w1 hi hj hE1 => kron1_ok w1 r c p q i j Kx Ky A A' k k' l l' b2 b3 (gx.ext (hF.exts hE1).ext) (gy.ext (hF.exts hE1).ext) hx hy ((hF.var (by repeat (first | exact InV.head | apply InV.tail))).ext hE1) ((hF.var (by repeat (first | exact InV.head | apply InV.tail))).ext hE1) hi hj (by omega) (by omega))).mono ?_; rintro _ wp ⟨z, rfl, hLp, hE, hf⟩; have hsz := hF.ext.size; replace hF := Fr.addLM hF hE hLp hf; clear hE; refine Back.mk ?_)) | (refine TL.isBin ?_; refine TL.cmpG rfl rfl rfl rfl (fun hc => ?_) (fun hc => ?_) <;> (try (first | (exfalso; omega) | exact absurd rfl hc))) | (apply TL.ev; (case hd => rfl); (case h => (first | exact ev_simple rfl | (apply Ev.isBin; first | exact ev_arN rfl rfl rfl (by omega)) | (apply Ev.isLoad; first | exact ev_loadFr hF rfl (by refine ⟨?_, ?_⟩; (focus (repeat (first | exact InV.head | apply InV.tail))); rfl) | exact ev_loadAFr hF rfl (by refine ⟨?_, ?_⟩; (focus (repeat (first | exact InV.head | apply InV.tail))); rfl)) | exact ev_fieldAddr rfl | exact ev_makeFunc rfl))) | (refine TL.storeAFr hF rfl rfl rfl rfl (by refine ⟨?_, ?_⟩; (focus (repeat (first | apply SetV.head | apply SetV.tail))); rfl) rfl ?_; clear hF; intro ws hF) | (refine TL.boxAFr hF (d := 2) (cs := [.int .i64 (r : Int), .int .i64 (c : Int), .slice A (r * c) k]) rfl rfl ?_; clear hF; intro w2 b2 hF) | (refine TL.boxAFr hF (d := 3) (cs := [.int .i64 (p : Int), .int .i64 (q : Int), .slice A' (p * q) k']) rfl rfl ?_; clear hF; intro w3 b3 hF) | (refine TL.allocFr hF (d := 4) rfl rfl ?_; clear hF; intro w4 b4 hF) | (refine TL.buildX2 (f := mvc) (u := ⟨r, c, A, r * c, k, l⟩) (v := ⟨p, q, A', p * q, k', l'⟩) rfl rfl rfl rfl rfl rfl rfl rfl rfl rfl (fun wn bn ebn hSn hEn hzn => ?_); replace hF := hF.exts hEn; clear ebn hEn hzn)) | (refine T.is ?_; first | refine T.seq ?_ | refine T.region ?_ | refine T.cond_f rfl ?_ | refine T.ret ?_ | refine T.skip ?_ | refine T.regionQ mixed (by kernel_rfl) ?_) | (refine G.is ?_; first | refine G.next ?_) | refine TL.nil ?_ | (refine TL.nilFr hF ?_; clear hF; intro wq hF))
  exact G.retC2 rfl rfl rfl (held_agg (hF.var (by repeat (first | exact InV.head | apply InV.tail))) rfl) ⟨z, rfl, Fr.lm hF (by repeat (first | exact memH | apply memT)), hF.ext, hf.mono hsz⟩
set_option maxRecDepth 100000 in
theorem mkron_large (w : World) (x y : MV) (r c p q : Nat) (sx : Sound x r c) (sy : Sound y p q) (hne : 64 < r * p ∨ 64 < c * q) :
    Cl Tryz.prog 53 #[.agg (mvc x).toArray, .agg (mvc y).toArray] w (RetMF w 5) := by
  have hsd := sound_two sx sy
  obtain ⟨xr, xc, A, n, k, l⟩ := x
  obtain ⟨yr, yc, A', n', k', l'⟩ := y
  obtain ⟨h1, h2, h3, h4, h5⟩ := id sx
  obtain ⟨h1', h2', h3', h4', h5'⟩ := id sy
  dsimp only at h1 h2 h5 h1' h2' h5'
  subst h1 h2 h5 h1' h2' h5'
  have hm1 := mul64 h3 h3'
  have hm2 := mul64 h4 h4'
  rcases Nat.lt_or_ge 64 (r * p) with hr | hr
  · have hs1 : decide ((0 : Int) ≤ ((r * p : Nat) : Int) ∧ ((r * p : Nat) : Int) ≤ 64) = false := decide_eq_false (by omega)
    refine enter Tryz.func53 rfl rfl rfl ?_
    have hF := Fr.refl w
    repeat' (first | (refine TL.isOp ?_; first | (refine TL.isG ?_; first | refine TL.gskip rfl rfl rfl rfl ?_) | (refine TL.isCall ?_; refine TL.call rfl rfl ?_; first | (refine (check_ok _ _ _ _ _ hSn hsd (by omega)).mono ?_; rintro _ wc ⟨rfl, hE⟩; clear hSn; replace hF := hF.exts hE; clear hE; refine Back.mk ?_) | (refine (side_ok _ _ _ hs1).clX.mono ?_; rintro _ wc ⟨rfl, _, hE⟩; replace hF := hF.exts hE; clear hE; refine Back.mk ?_)) | (refine TL.isBin ?_; refine TL.cmpG rfl rfl rfl rfl (fun hc => ?_) (fun hc => ?_) <;> (try (first | (exfalso; omega) | exact absurd rfl hc))) | (apply TL.ev; (case hd => rfl); (case h => (first | exact ev_simple rfl | (apply Ev.isBin; first | exact ev_arN rfl rfl rfl (by omega)) | (apply Ev.isLoad; first | exact ev_loadFr hF rfl (by refine ⟨?_, ?_⟩; (focus (repeat (first | exact InV.head | apply InV.tail))); rfl) | exact ev_loadAFr hF rfl (by refine ⟨?_, ?_⟩; (focus (repeat (first | exact InV.head | apply InV.tail))); rfl)) | exact ev_fieldAddr rfl | exact ev_buildX rfl rfl))) | (refine TL.storeAFr hF rfl rfl rfl rfl (by refine ⟨?_, ?_⟩; (focus (repeat (first | apply SetV.head | apply SetV.tail))); rfl) rfl ?_; clear hF; intro ws hF) | (refine TL.boxAFr hF (d := 2) (cs := [.int .i64 (r : Int), .int .i64 (c : Int), .slice A (r * c) k]) rfl rfl ?_; clear hF; intro w2 b2 hF) | (refine TL.boxAFr hF (d := 3) (cs := [.int .i64 (p : Int), .int .i64 (q : Int), .slice A' (p * q) k']) rfl rfl ?_; clear hF; intro w3 b3 hF) | (refine TL.allocFr hF (d := 4) rfl rfl ?_; clear hF; intro w4 b4 hF) | (refine TL.buildX2 (f := mvc) (u := ⟨r, c, A, r * c, k, l⟩) (v := ⟨p, q, A', p * q, k', l'⟩) rfl rfl rfl rfl rfl rfl rfl rfl rfl rfl (fun wn bn ebn hSn hEn hzn => ?_); replace hF := hF.exts hEn; clear ebn hEn hzn)) | (refine T.is ?_; first | refine T.seq ?_ | refine T.region ?_ | refine T.cond_t rfl ?_ | refine T.cond_f rfl ?_ | refine T.ret ?_ | refine T.skip ?_ | refine T.regionQ mixed (by kernel_rfl) ?_) | (refine G.is ?_; first | refine G.next ?_ | refine G.thenR ?_) | refine TL.nil ?_ | (refine TL.nilFr hF ?_; clear hF; intro wq hF))
    exact G.retC2 rfl rfl rfl (held_agg (hF.var (by repeat (first | exact InV.head | apply InV.tail))) rfl) ⟨rfl, hF.ext⟩
  · have hs1 : decide ((0 : Int) ≤ ((r * p : Nat) : Int) ∧ ((r * p : Nat) : Int) ≤ 64) = true := decide_eq_true (by omega)
    have hs2 : decide ((0 : Int) ≤ ((c * q : Nat) : Int) ∧ ((c * q : Nat) : Int) ≤ 64) = false := decide_eq_false (by omega)
    refine enter Tryz.func53 rfl rfl rfl ?_
    have hF := Fr.refl w
    repeat' (first | (refine TL.isOp ?_; first | (refine TL.isG ?_; first | refine TL.grun rfl rfl rfl ?_) | (refine TL.isCall ?_; refine TL.call rfl rfl ?_; first | (refine (check_ok _ _ _ _ _ hSn hsd (by omega)).mono ?_; rintro _ wc ⟨rfl, hE⟩; clear hSn; replace hF := hF.exts hE; clear hE; refine Back.mk ?_) | (refine (side_ok _ _ _ hs1).clX.mono ?_; rintro _ wc ⟨rfl, _, hE⟩; replace hF := hF.exts hE; clear hE; refine Back.mk ?_) | (refine (side_ok _ _ _ hs2).clX.mono ?_; rintro _ wc ⟨rfl, _, hE⟩; replace hF := hF.exts hE; clear hE; refine Back.mk ?_)) | (refine TL.isBin ?_; refine TL.cmpG rfl rfl rfl rfl (fun hc => ?_) (fun hc => ?_) <;> (try (first | (exfalso; omega) | exact absurd rfl hc))) | (apply TL.ev; (case hd => rfl); (case h => (first | exact ev_simple rfl | (apply Ev.isBin; first | exact ev_arN rfl rfl rfl (by omega)) | (apply Ev.isLoad; first | exact ev_loadFr hF rfl (by refine ⟨?_, ?_⟩; (focus (repeat (first | exact InV.head | apply InV.tail))); rfl) | exact ev_loadAFr hF rfl (by refine ⟨?_, ?_⟩; (focus (repeat (first | exact InV.head | apply InV.tail))); rfl)) | exact ev_fieldAddr rfl | exact ev_buildX rfl rfl))) | (refine TL.storeAFr hF rfl rfl rfl rfl (by refine ⟨?_, ?_⟩; (focus (repeat (first | apply SetV.head | apply SetV.tail))); rfl) rfl ?_; clear hF; intro ws hF) | (refine TL.boxAFr hF (d := 2) (cs := [.int .i64 (r : Int), .int .i64 (c : Int), .slice A (r * c) k]) rfl rfl ?_; clear hF; intro w2 b2 hF) | (refine TL.boxAFr hF (d := 3) (cs := [.int .i64 (p : Int), .int .i64 (q : Int), .slice A' (p * q) k']) rfl rfl ?_; clear hF; intro w3 b3 hF) | (refine TL.allocFr hF (d := 4) rfl rfl ?_; clear hF; intro w4 b4 hF) | (refine TL.buildX2 (f := mvc) (u := ⟨r, c, A, r * c, k, l⟩) (v := ⟨p, q, A', p * q, k', l'⟩) rfl rfl rfl rfl rfl rfl rfl rfl rfl rfl (fun wn bn ebn hSn hEn hzn => ?_); replace hF := hF.exts hEn; clear ebn hEn hzn)) | (refine T.is ?_; first | refine T.seq ?_ | refine T.region ?_ | refine T.cond_t rfl ?_ | refine T.cond_f rfl ?_ | refine T.ret ?_ | refine T.skip ?_ | refine T.regionQ mixed (by kernel_rfl) ?_) | (refine G.is ?_; first | refine G.next ?_ | refine G.thenR ?_) | refine TL.nil ?_ | (refine TL.nilFr hF ?_; clear hF; intro wq hF))
    exact G.retC2 rfl rfl rfl (held_agg (hF.var (by repeat (first | exact InV.head | apply InV.tail))) rfl) ⟨rfl, hF.ext⟩
end Go.Proofs.YtlhmehikajidhaaGreat
