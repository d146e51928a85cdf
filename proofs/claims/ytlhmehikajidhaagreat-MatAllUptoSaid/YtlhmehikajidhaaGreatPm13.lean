/- The document's answers for layer 9: Pow refused, Cmp, Equal, Pick, Kron. Layer 9: Kron, Diag, Make of the document; Make, Zero, Diag of the program. Layer 9: the program's Make, Diag, Zero. -/
import Derived.Test.YtlhmehikajidhaaGreatPm12
import Derived.Test.YtlhmehikajidhaaGreatPm7
import Derived.Test.YtlhmehikajidhaaGreatPm6
set_option maxHeartbeats 4000000
set_option linter.unusedVariables false
set_option linter.unusedSimpArgs false
namespace Go.Proofs.YtlhmehikajidhaaGreat
open Go Go.Eng Go.Proofs Go.NatM Go.RowKit
theorem rpow_no (w : World) (x : MV) (r c : Nat) (z : Int) (gx : Sound x r c) (h : ¬ (r = c ∧ 0 ≤ z ∧ z ≤ 256)) : Cl Tryz.prog 34 #[.agg (mvc x).toArray, .int .i64 z] w (RetMF w (powE r c z)) := by
  have hck := fun w => rchkE_ok w x r c gx
  have e1 := gx.er
  have e2 := gx.ec
  clear gx
  obtain ⟨xr, xc, A, n, k, l⟩ := x
  dsimp only at e1 e2
  subst e1 e2
  by_cases hrc : r = c
  · subst hrc
    by_cases hz : z < 0
    · have e : powE r r z = 3 := by unfold powE; rw [if_neg (fun h => h rfl), if_pos hz]
      rw [e]
      refine enter Tryz.func34 rfl rfl rfl ?_
      have hF := Fr.refl w
      repeat' (first | (refine TL.isOp ?_; first | (refine TL.isCall ?_; refine TL.call rfl rfl ?_; first | (refine (hck _).mono ?_; rintro _ wy ⟨rfl, hE⟩; replace hF := hF.exts hE; clear hE; refine Back.mk ?_)) | (refine TL.isBin ?_; refine TL.cmpG rfl rfl rfl rfl (fun hc => ?_) (fun hc => ?_) <;> (try (first | (exfalso; omega) | exact absurd rfl hc))) | (apply TL.ev; (case hd => rfl); (case h => (first | exact ev_simple rfl | (apply Ev.isLoad; first | exact ev_loadFr hF rfl (by refine ⟨?_, ?_⟩; (focus (repeat (first | exact InV.head | apply InV.tail))); rfl) | exact ev_loadAFr hF rfl (by refine ⟨?_, ?_⟩; (focus (repeat (first | exact InV.head | apply InV.tail))); rfl)) | exact ev_fieldAddr rfl | exact ev_buildX rfl rfl))) | (refine TL.storeAFr hF rfl rfl rfl rfl (by refine ⟨?_, ?_⟩; (focus (repeat (first | apply SetV.head | apply SetV.tail))); rfl) rfl ?_; clear hF; intro ws hF) | (refine TL.boxAFr hF (d := 2) (cs := [.int .i64 (r : Int), .int .i64 (r : Int), .slice A n k]) rfl rfl ?_; clear hF; intro w2 b2 hF) | (refine TL.allocFr hF (d := 4) rfl rfl ?_; clear hF; intro w4 b4 hF)) | (refine T.is ?_; first | refine T.seq ?_ | refine T.region ?_ | refine T.cond_t rfl ?_ | refine T.cond_f rfl ?_ | refine T.ret ?_ | refine T.skip ?_) | (refine G.is ?_; first | refine G.next ?_ | refine G.thenR ?_) | refine TL.nil ?_)
      exact G.retC2 rfl rfl rfl (held_agg (hF.var (by repeat (first | exact InV.head | apply InV.tail))) rfl) ⟨rfl, hF.ext⟩
    · have e : powE r r z = 5 := by unfold powE; rw [if_neg (fun h => h rfl), if_neg hz]
      rw [e]
      have hz2 : 256 < z := by omega
      refine enter Tryz.func34 rfl rfl rfl ?_
      have hF := Fr.refl w
      repeat' (first | (refine TL.isOp ?_; first | (refine TL.isCall ?_; refine TL.call rfl rfl ?_; first | (refine (hck _).mono ?_; rintro _ wy ⟨rfl, hE⟩; replace hF := hF.exts hE; clear hE; refine Back.mk ?_)) | (refine TL.isBin ?_; refine TL.cmpG rfl rfl rfl rfl (fun hc => ?_) (fun hc => ?_) <;> (try (first | (exfalso; omega) | exact absurd rfl hc))) | (apply TL.ev; (case hd => rfl); (case h => (first | exact ev_simple rfl | (apply Ev.isLoad; first | exact ev_loadFr hF rfl (by refine ⟨?_, ?_⟩; (focus (repeat (first | exact InV.head | apply InV.tail))); rfl) | exact ev_loadAFr hF rfl (by refine ⟨?_, ?_⟩; (focus (repeat (first | exact InV.head | apply InV.tail))); rfl)) | exact ev_fieldAddr rfl | exact ev_buildX rfl rfl))) | (refine TL.storeAFr hF rfl rfl rfl rfl (by refine ⟨?_, ?_⟩; (focus (repeat (first | apply SetV.head | apply SetV.tail))); rfl) rfl ?_; clear hF; intro ws hF) | (refine TL.boxAFr hF (d := 2) (cs := [.int .i64 (r : Int), .int .i64 (r : Int), .slice A n k]) rfl rfl ?_; clear hF; intro w2 b2 hF) | (refine TL.allocFr hF (d := 4) rfl rfl ?_; clear hF; intro w4 b4 hF)) | (refine T.is ?_; first | refine T.seq ?_ | refine T.region ?_ | refine T.cond_t rfl ?_ | refine T.cond_f rfl ?_ | refine T.ret ?_ | refine T.skip ?_) | (refine G.is ?_; first | refine G.next ?_ | refine G.thenR ?_) | refine TL.nil ?_)
      exact G.retC2 rfl rfl rfl (held_agg (hF.var (by repeat (first | exact InV.head | apply InV.tail))) rfl) ⟨rfl, hF.ext⟩
  · have e : powE r c z = 2 := by unfold powE; rw [if_pos hrc]
    rw [e]
    refine enter Tryz.func34 rfl rfl rfl ?_
    have hF := Fr.refl w
    repeat' (first | (refine TL.isOp ?_; first | (refine TL.isCall ?_; refine TL.call rfl rfl ?_; first | (refine (hck _).mono ?_; rintro _ wy ⟨rfl, hE⟩; replace hF := hF.exts hE; clear hE; refine Back.mk ?_)) | (refine TL.isBin ?_; refine TL.cmpG rfl rfl rfl rfl (fun hc => ?_) (fun hc => ?_) <;> (try (first | (exfalso; omega) | exact absurd rfl hc))) | (apply TL.ev; (case hd => rfl); (case h => (first | exact ev_simple rfl | (apply Ev.isLoad; first | exact ev_loadFr hF rfl (by refine ⟨?_, ?_⟩; (focus (repeat (first | exact InV.head | apply InV.tail))); rfl) | exact ev_loadAFr hF rfl (by refine ⟨?_, ?_⟩; (focus (repeat (first | exact InV.head | apply InV.tail))); rfl)) | exact ev_fieldAddr rfl | exact ev_buildX rfl rfl))) | (refine TL.storeAFr hF rfl rfl rfl rfl (by refine ⟨?_, ?_⟩; (focus (repeat (first | apply SetV.head | apply SetV.tail))); rfl) rfl ?_; clear hF; intro ws hF) | (refine TL.boxAFr hF (d := 2) (cs := [.int .i64 (r : Int), .int .i64 (c : Int), .slice A n k]) rfl rfl ?_; clear hF; intro w2 b2 hF) | (refine TL.allocFr hF (d := 4) rfl rfl ?_; clear hF; intro w4 b4 hF)) | (refine T.is ?_; first | refine T.seq ?_ | refine T.region ?_ | refine T.cond_t rfl ?_ | refine T.cond_f rfl ?_ | refine T.ret ?_ | refine T.skip ?_) | (refine G.is ?_; first | refine G.next ?_ | refine G.thenR ?_) | refine TL.nil ?_)
    exact G.retC2 rfl rfl rfl (held_agg (hF.var (by repeat (first | exact InV.head | apply InV.tail))) rfl) ⟨rfl, hF.ext⟩
theorem rpow_bad (w : World) (x : MV) (z : Int) (h : ¬ Snd x) : Cl Tryz.prog 34 #[.agg (mvc x).toArray, .int .i64 z] w (RetMF w 1) := by
  have hck := fun w => rchk_any w x (.inr ⟨h, rfl⟩)
  clear h
  obtain ⟨xr, xc, A, n, k, l⟩ := x
  refine enter Tryz.func34 rfl rfl rfl ?_
  have hF := Fr.refl w
  repeat' (first | (refine TL.isOp ?_; first | (refine TL.isCall ?_; refine TL.call rfl rfl ?_; first | (refine (hck _).mono ?_; rintro _ wy ⟨rfl, hE⟩; replace hF := hF.exts hE; clear hE; refine Back.mk ?_)) | (refine TL.isBin ?_; refine TL.cmpG rfl rfl rfl rfl (fun hc => ?_) (fun hc => ?_) <;> (try (first | (exfalso; omega) | exact absurd rfl hc))) | (apply TL.ev; (case hd => rfl); (case h => (first | exact ev_simple rfl | (apply Ev.isLoad; first | exact ev_loadAFr hF rfl (by refine ⟨?_, ?_⟩; (focus (repeat (first | exact InV.head | apply InV.tail))); rfl)) | exact ev_buildX rfl rfl))) | (refine TL.storeAFr hF rfl rfl rfl rfl (by refine ⟨?_, ?_⟩; (focus (repeat (first | apply SetV.head | apply SetV.tail))); rfl) rfl ?_; clear hF; intro ws hF) | (refine TL.boxAFr hF (d := 2) (cs := [.int .i64 xr, .int .i64 xc, .slice A n k]) rfl rfl ?_; clear hF; intro w2 b2 hF) | (refine TL.allocFr hF (d := 4) rfl rfl ?_; clear hF; intro w4 b4 hF)) | (refine T.is ?_; first | refine T.seq ?_ | refine T.region ?_ | refine T.cond_t rfl ?_ | refine T.ret ?_) | (refine G.is ?_; first | refine G.next ?_ | refine G.thenR ?_) | refine TL.nil ?_)
  exact G.retC2 rfl rfl rfl (held_agg (hF.var (by repeat (first | exact InV.head | apply InV.tail))) rfl) ⟨rfl, hF.ext⟩
theorem r5cmp_ok (w : World) (x y : IV) (g : GI w.heap x) (g' : GI w.heap y) (hn : x.m.n ≤ 1099511627776) (hn' : y.m.n ≤ 1099511627776) : Cl Tryz.prog 109 #[.agg (ivc x).toArray, .agg (ivc y).toArray] w (fun e w' => e = .returned (.int .i64 (cmpZ (ival x) (ival y))) ∧ Ext w w') := by
  have hsx := fun w1 (hE : Ext w w1) => r5sign_ok w1 x (g.ext hE) hn
  have hsy := fun w1 (hE : Ext w w1) => r5sign_ok w1 y (g'.ext hE) hn'
  have hcm := fun w1 (hE : Ext w w1) => r5abs_ok w1 x y (g.ext hE) (g'.ext hE) hn hn'
  have hc1 := cmpZ_sig (x := x) (y := y)
  have hc2 := cmpZ_ne (a := ival x) (b := ival y)
  obtain ⟨sx, hsx'⟩ : ∃ s, sig (ival x) = s := ⟨_, rfl⟩
  obtain ⟨sy, hsy'⟩ : ∃ s, sig (ival y) = s := ⟨_, rfl⟩
  obtain ⟨q, hq'⟩ : ∃ s, cmp3 (val x.m.l) (val y.m.l) = s := ⟨_, rfl⟩
  have hqb : -1 ≤ q ∧ q ≤ 1 := by rw [← hq']; unfold cmp3; split <;> (try split) <;> omega
  have hb : -1 ≤ sx ∧ sx ≤ 1 := by rw [← hsx']; unfold sig; split <;> (try split) <;> omega
  rw [hsx'] at hsx hc1 hc2
  rw [hsy'] at hsy hc1 hc2
  rw [hq'] at hcm hc1
  generalize cmpZ (ival x) (ival y) = cz at *
  obtain ⟨xn, ⟨A1, n1, c1, l1⟩⟩ := x
  obtain ⟨yn, ⟨A2, n2, c2, l2⟩⟩ := y
  by_cases h : sx = sy
  · have hm : -1 ≤ sx * q ∧ sx * q ≤ 1 := by
      have h3 : sx = -1 ∨ sx = 0 ∨ sx = 1 := by omega
      rcases h3 with rfl | rfl | rfl <;> omega
    subst h
    refine enter Tryz.func109 rfl rfl rfl ?_
    have hF := Fr.refl w
    repeat' (first | (refine TL.isOp ?_; first | (refine TL.isCall ?_; refine TL.call rfl rfl ?_; first | (refine (hsx _ hF.ext).mono ?_; rintro _ w1 ⟨rfl, hE⟩; replace hF := hF.exts hE; clear hE; refine Back.mk ?_) | (refine (hsy _ hF.ext).mono ?_; rintro _ w1 ⟨rfl, hE⟩; replace hF := hF.exts hE; clear hE; refine Back.mk ?_) | (refine (hcm _ hF.ext).mono ?_; rintro _ w1 ⟨rfl, hE⟩; replace hF := hF.exts hE; clear hE; refine Back.mk ?_)) | (refine TL.isBin ?_; refine TL.cmpG rfl rfl rfl rfl (fun hc => ?_) (fun hc => ?_) <;> (try (first | (exfalso; omega) | exact absurd rfl hc))) | (apply TL.ev; (case hd => rfl); (case h => (first | exact ev_simple rfl | (apply Ev.isBin; first | exact ev_arI rfl rfl rfl (by omega)) | (apply Ev.isLoad; first | exact ev_loadAFr hF rfl (by refine ⟨?_, ?_⟩; (focus (repeat (first | exact InV.head | apply InV.tail))); rfl))))) | (refine TL.boxAFr hF (d := 2) (cs := [.bool xn, .slice A1 n1 c1]) rfl rfl ?_; clear hF; intro w2 b2 hF) | (refine TL.boxAFr hF (d := 3) (cs := [.bool yn, .slice A2 n2 c2]) rfl rfl ?_; clear hF; intro w3 b3 hF)) | (refine T.is ?_; first | refine T.seq ?_ | refine T.region ?_ | refine T.cond_f rfl ?_ | refine T.ret ?_ | refine T.skip ?_) | (refine G.is ?_; first | refine G.next ?_) | refine TL.nil ?_)
    exact G.ret1 rfl rfl ⟨by rw [hc1 rfl], hF.ext⟩
  · have hz := hc2 h
    refine enter Tryz.func109 rfl rfl rfl ?_
    have hF := Fr.refl w
    repeat' (first | (refine TL.isOp ?_; first | (refine TL.isCall ?_; refine TL.call rfl rfl ?_; first | (refine (hsx _ hF.ext).mono ?_; rintro _ w1 ⟨rfl, hE⟩; replace hF := hF.exts hE; clear hE; refine Back.mk ?_) | (refine (hsy _ hF.ext).mono ?_; rintro _ w1 ⟨rfl, hE⟩; replace hF := hF.exts hE; clear hE; refine Back.mk ?_)) | (refine TL.isBin ?_; refine TL.cmpG rfl rfl rfl rfl (fun hc => ?_) (fun hc => ?_) <;> (try (first | (exfalso; omega) | exact absurd rfl hc))) | (apply TL.ev; (case hd => rfl); (case h => (first | exact ev_simple rfl | (apply Ev.isLoad; first | exact ev_loadAFr hF rfl (by refine ⟨?_, ?_⟩; (focus (repeat (first | exact InV.head | apply InV.tail))); rfl))))) | (refine TL.boxAFr hF (d := 2) (cs := [.bool xn, .slice A1 n1 c1]) rfl rfl ?_; clear hF; intro w2 b2 hF) | (refine TL.boxAFr hF (d := 3) (cs := [.bool yn, .slice A2 n2 c2]) rfl rfl ?_; clear hF; intro w3 b3 hF)) | (refine T.is ?_; first | refine T.seq ?_ | refine T.region ?_ | refine T.cond_t rfl ?_ | refine T.cond_f rfl ?_ | refine T.ret ?_ | refine T.skip ?_) | (refine G.is ?_; first | refine G.next ?_ | refine G.thenR ?_) | refine TL.nil ?_)
    · exact G.ret1 rfl rfl ⟨by rw [← hz, if_pos (by assumption)], hF.ext⟩
    · exact G.ret1 rfl rfl ⟨by rw [← hz, if_neg (by assumption)], hF.ext⟩
set_option maxRecDepth 100000 in
theorem requal_ok (w : World) (x y : MV) (r c r' c' Kx Ky : Nat) (gx : GM w.heap x r c Kx) (gy : GM w.heap y r' c' Ky) (hKx : Kx ≤ 1099511627776) (hKy : Ky ≤ 1099511627776) :
    Cl Tryz.prog 82 #[.agg (mvc x).toArray, .agg (mvc y).toArray] w (RetEq w (r = r' ∧ c = c' ∧ ∀ q, q < r * c → ival (x.l.getD q default) = ival (y.l.getD q default))) := by
  have hbo := fun w => rboth_ok w x y gx.sh.snd gy.sh.snd
  have hs := gx.s
  have hs' := gy.s
  have sx := gx.sh
  have sy := gy.sh
  obtain ⟨xr, xc, A, n, k, l⟩ := x
  obtain ⟨yr, yc, A2, n2, k2, l2⟩ := y
  obtain ⟨h1, h2', h3, h4, h5⟩ := sx
  obtain ⟨h1', h2'', h3', h4', h5'⟩ := sy
  dsimp only at h1 h2' h5 h1' h2'' h5' hs hs'
  subst h1 h2' h5 h1' h2'' h5'
  have hm := mul64 h3 h4
  have hlen := hs.len
  have hlen' := hs'.len
  by_cases hne : r = r' ∧ c = c'
  · obtain ⟨rfl, rfl⟩ := hne
    refine enter Tryz.func82 rfl rfl rfl ?_
    have hF := Fr.refl w
    repeat' (first | (refine TL.isOp ?_; first | (refine TL.isG ?_; first | refine TL.grun rfl rfl rfl ?_) | (refine TL.isCall ?_; refine TL.call rfl rfl ?_; first | (refine (hbo _).mono ?_; rintro _ wc ⟨rfl, hE⟩; replace hF := hF.exts hE; clear hE; refine Back.mk ?_)) | (refine TL.isBin ?_; refine TL.cmpG rfl rfl rfl rfl (fun hc => ?_) (fun hc => ?_) <;> (try (first | (exfalso; omega) | exact absurd rfl hc))) | (apply TL.ev; (case hd => rfl); (case h => (first | exact ev_simple rfl | (apply Ev.isLoad; first | exact ev_loadFr hF rfl (by refine ⟨?_, ?_⟩; (focus (repeat (first | exact InV.head | apply InV.tail))); rfl) | exact ev_loadAFr hF rfl (by refine ⟨?_, ?_⟩; (focus (repeat (first | exact InV.head | apply InV.tail))); rfl)) | exact ev_fieldAddr rfl))) | (refine TL.boxAFr hF (d := 2) (cs := [.int .i64 (r : Int), .int .i64 (c : Int), .slice A (r * c) k]) rfl rfl ?_; clear hF; intro w2 b2 hF) | (refine TL.boxAFr hF (d := 3) (cs := [.int .i64 (r : Int), .int .i64 (c : Int), .slice A2 (r * c) k2]) rfl rfl ?_; clear hF; intro w3 b3 hF)) | (refine T.is ?_; first | refine T.seq ?_ | refine T.region ?_ | refine T.block ?_ | refine T.cond_f rfl ?_ | refine T.skip ?_) | (refine G.is ?_; first | refine G.next ?_) | refine TL.nil ?_)
    refine T.loop (α := Nat) (fun i => [(2, .pointer (some ⟨b2, 0, none⟩)), (3, .pointer (some ⟨b3, 0, none⟩)), (7, .int .i64 (i : Int))])
      (fun i w' => i ≤ r * c ∧ (∀ q, q < i → ival (l.getD q default) = ival (l2.getD q default)) ∧ Fr w w' [⟨b3, 27, [.int .i64 (r : Int), .int .i64 (c : Int), .slice A2 (r * c) k2]⟩, ⟨b2, 27, [.int .i64 (r : Int), .int .i64 (c : Int), .slice A (r * c) k]⟩] []) (fun i => r * c - i) 0 (by repeat (first | exact Sub.nil _ | refine Sub.cons rfl ?_ | refine Sub.cons' rfl (int_congr (by omega)) ?_)) ⟨Nat.zero_le _, fun q hq => absurd hq (Nat.not_lt_zero _), hF⟩ ?_
    clear hF
    rintro i w2 ⟨hi, hq, hF⟩
    rcases Nat.lt_or_ge i (r * c) with hin | hin
    · have y1 : l[i]? = some (l.getD i default) := by simp [List.getD, show i < l.length by omega]
      have y2 : l2[i]? = some (l2.getD i default) := by simp [List.getD, show i < l2.length by omega]
      obtain ⟨g1, n1⟩ := gx.g _ (List.mem_of_getElem? y1)
      obtain ⟨g2, n2⟩ := gy.g _ (List.mem_of_getElem? y2)
      by_cases he : ival (l.getD i default) = ival (l2.getD i default)
      · have hz : cmpZ (ival (l.getD i default)) (ival (l2.getD i default)) = 0 := by rw [he]; simp [cmpZ]
        repeat' (first | (refine TL.isOp ?_; first | (refine TL.isCall ?_; refine TL.call rfl rfl ?_; first | (refine (r5cmp_ok _ _ _ (g1.ext hF.ext) (g2.ext hF.ext) (by omega) (by omega)).mono ?_; rintro _ wc ⟨rfl, hE⟩; rw [hz]; replace hF := hF.exts hE; clear hE; refine Back.mk ?_)) | (refine TL.isBin ?_; refine TL.cmpG rfl rfl rfl rfl (fun hc => ?_) (fun hc => ?_) <;> (try (first | (exfalso; omega) | exact absurd rfl hc))) | (apply TL.ev; (case hd => rfl); (case h => (first | exact ev_simple rfl | (apply Ev.isBin; first | exact ev_arN rfl rfl rfl (by omega)) | (apply Ev.isLoad; first | exact ev_loadFr hF rfl (by refine ⟨?_, ?_⟩; (focus (repeat (first | exact InV.head | apply InV.tail))); rfl)) | exact ev_len rfl | exact ev_fieldAddr rfl)))) | (refine TF.is ?_; first | refine TF.nil ?_ | refine TF.e rfl ?_ | (refine TF.pick rfl ?_; first | (apply TFo.ev; (case hd => rfl); (case h => (intro wh hF; first | exact ev_simple rfl | (apply Ev.isLoad; first | exact ev_loadFr hF rfl (by refine ⟨?_, ?_⟩; (focus (repeat (first | exact InV.head | apply InV.tail))); rfl) | exact ev_loadM rfl (hs.ext hF.ext) y1 | exact ev_loadM rfl (hs'.ext hF.ext) y2) | exact ev_fieldAddr rfl | exact ev_indexM rfl rfl hin (hs.ext hF.ext).some | exact ev_indexM rfl rfl hin (hs'.ext hF.ext).some))))) | (refine T.is ?_; first | refine T.seq ?_ | refine T.region ?_ | refine T.block ?_ | refine T.cond_t rfl ?_ | refine T.cond_f rfl ?_ | refine T.skip ?_ | (refine T.regionFr hF 9 12 (.s 0 (.s 1 (.s 2 (.s 3 (.s 4 (.s 5 (.s 6 (.s 7 (.s 8 (.s 9 (.e 10 (.s 11 .nil)))))))))))) mixed (by kernel_rfl) ?_; clear hF; intro wr hF)) | (refine G.is ?_; first | refine G.next ?_ | refine G.blockN ?_ | refine G.only ?_ | refine G.tree rfl (by first | exact hF | exact hF.weak (by repeat (first | exact List.Sublist.refl _ | apply List.Sublist.cons)) (by repeat (first | exact allR | apply allT)) | exact hF.weak (by repeat (first | exact List.Sublist.refl _ | apply List.Sublist.cons)) (by repeat (first | exact allN | refine allH (by repeat (first | exact memH | apply memT)) ?_))) ?_) | refine TL.nil ?_)
        refine G.again (i + 1) (by repeat (first | exact Sub.nil _ | refine Sub.cons rfl ?_ | refine Sub.cons' rfl (int_congr (by omega)) ?_)) ⟨by omega, fun q hq' => ?_, hF⟩ (by omega)
        rcases Nat.lt_or_ge q i with h | h
        · exact hq q h
        · obtain rfl : q = i := by omega
          exact he
      · have hz : cmpZ (ival (l.getD i default)) (ival (l2.getD i default)) ≠ 0 := by unfold cmpZ; split <;> (try split) <;> omega
        have hzb : -1 ≤ cmpZ (ival (l.getD i default)) (ival (l2.getD i default)) ∧ cmpZ (ival (l.getD i default)) (ival (l2.getD i default)) ≤ 1 := by unfold cmpZ; split <;> (try split) <;> omega
        generalize hcz : cmpZ (ival (l.getD i default)) (ival (l2.getD i default)) = cz at hz hzb
        repeat' (first | (refine TL.isOp ?_; first | (refine TL.isCall ?_; refine TL.call rfl rfl ?_; first | (refine (r5cmp_ok _ _ _ (g1.ext hF.ext) (g2.ext hF.ext) (by omega) (by omega)).mono ?_; rintro _ wc ⟨rfl, hE⟩; rw [hcz]; replace hF := hF.exts hE; clear hE; refine Back.mk ?_)) | (refine TL.isBin ?_; refine TL.cmpG rfl rfl rfl rfl (fun hc => ?_) (fun hc => ?_) <;> (try (first | (exfalso; omega) | exact absurd rfl hc))) | (apply TL.ev; (case hd => rfl); (case h => (first | exact ev_simple rfl | (apply Ev.isLoad; first | exact ev_loadFr hF rfl (by refine ⟨?_, ?_⟩; (focus (repeat (first | exact InV.head | apply InV.tail))); rfl)) | exact ev_len rfl | exact ev_fieldAddr rfl)))) | (refine TF.is ?_; first | refine TF.nil ?_ | refine TF.e rfl ?_ | (refine TF.pick rfl ?_; first | (apply TFo.ev; (case hd => rfl); (case h => (intro wh hF; first | exact ev_simple rfl | (apply Ev.isLoad; first | exact ev_loadFr hF rfl (by refine ⟨?_, ?_⟩; (focus (repeat (first | exact InV.head | apply InV.tail))); rfl) | exact ev_loadM rfl (hs.ext hF.ext) y1 | exact ev_loadM rfl (hs'.ext hF.ext) y2) | exact ev_fieldAddr rfl | exact ev_indexM rfl rfl hin (hs.ext hF.ext).some | exact ev_indexM rfl rfl hin (hs'.ext hF.ext).some))))) | (refine T.is ?_; first | refine T.seq ?_ | refine T.region ?_ | refine T.block ?_ | refine T.cond_t rfl ?_ | refine T.ret ?_ | refine T.skip ?_ | (refine T.regionFr hF 9 12 (.s 0 (.s 1 (.s 2 (.s 3 (.s 4 (.s 5 (.s 6 (.s 7 (.s 8 (.s 9 (.e 10 (.s 11 .nil)))))))))))) mixed (by kernel_rfl) ?_; clear hF; intro wr hF)) | (refine G.is ?_; first | refine G.next ?_ | refine G.blockR ?_ | refine G.thenR ?_ | refine G.only ?_ | refine G.tree rfl (by first | exact hF | exact hF.weak (by repeat (first | exact List.Sublist.refl _ | apply List.Sublist.cons)) (by repeat (first | exact allR | apply allT)) | exact hF.weak (by repeat (first | exact List.Sublist.refl _ | apply List.Sublist.cons)) (by repeat (first | exact allN | refine allH (by repeat (first | exact memH | apply memT)) ?_))) ?_) | refine TL.nil ?_)
        exact G.ret2 rfl rfl rfl ⟨false, by constructor <;> intro h; cases h; exact absurd (h.2.2 i hin) he, rfl, hF.ext⟩
    · obtain rfl : i = r * c := by omega
      repeat' (first | (refine TL.isOp ?_; first | (refine TL.isBin ?_; refine TL.cmpG rfl rfl rfl rfl (fun hc => ?_) (fun hc => ?_) <;> (try (first | (exfalso; omega) | exact absurd rfl hc))) | (apply TL.ev; (case hd => rfl); (case h => (first | exact ev_simple rfl | (apply Ev.isLoad; first | exact ev_loadFr hF rfl (by refine ⟨?_, ?_⟩; (focus (repeat (first | exact InV.head | apply InV.tail))); rfl)) | exact ev_len rfl | exact ev_fieldAddr rfl)))) | (refine T.is ?_; first | refine T.seq ?_ | refine T.region ?_ | refine T.cond_f rfl ?_ | refine T.exit ?_ | refine T.ret ?_) | (refine G.is ?_; first | refine G.next ?_ | refine G.blockE ?_ | refine G.thenE ?_) | refine TL.nil ?_)
      exact G.ret2 rfl rfl rfl ⟨true, ⟨fun _ => ⟨rfl, rfl, hq⟩, fun _ => rfl⟩, rfl, hF.ext⟩
  · refine enter Tryz.func82 rfl rfl rfl ?_
    have hF := Fr.refl w
    repeat' (first | (refine TL.isOp ?_; first | (refine TL.isG ?_; first | refine TL.grun rfl rfl rfl ?_ | refine TL.gskip rfl rfl rfl rfl ?_) | (refine TL.isCall ?_; refine TL.call rfl rfl ?_; first | (refine (hbo _).mono ?_; rintro _ wc ⟨rfl, hE⟩; replace hF := hF.exts hE; clear hE; refine Back.mk ?_)) | (refine TL.isBin ?_; refine TL.cmpG rfl rfl rfl rfl (fun hc => ?_) (fun hc => ?_) <;> (try (first | (exfalso; omega) | exact absurd rfl hc))) | (apply TL.ev; (case hd => rfl); (case h => (first | exact ev_simple rfl | (apply Ev.isLoad; first | exact ev_loadFr hF rfl (by refine ⟨?_, ?_⟩; (focus (repeat (first | exact InV.head | apply InV.tail))); rfl) | exact ev_loadAFr hF rfl (by refine ⟨?_, ?_⟩; (focus (repeat (first | exact InV.head | apply InV.tail))); rfl)) | exact ev_fieldAddr rfl))) | (refine TL.boxAFr hF (d := 2) (cs := [.int .i64 (r : Int), .int .i64 (c : Int), .slice A (r * c) k]) rfl rfl ?_; clear hF; intro w2 b2 hF) | (refine TL.boxAFr hF (d := 3) (cs := [.int .i64 (r' : Int), .int .i64 (c' : Int), .slice A2 (r' * c') k2]) rfl rfl ?_; clear hF; intro w3 b3 hF)) | (refine T.is ?_; first | refine T.seq ?_ | refine T.region ?_ | refine T.cond_t rfl ?_ | refine T.cond_f rfl ?_ | refine T.ret ?_ | refine T.skip ?_) | (refine G.is ?_; first | refine G.next ?_ | refine G.thenR ?_) | refine TL.nil ?_)
    all_goals first | exact G.ret2 rfl rfl rfl ⟨false, ⟨fun h => (by cases h), fun h => absurd ⟨h.1, h.2.1⟩ hne⟩, rfl, hF.ext⟩ | (exfalso; omega)
theorem requal_bad (w : World) (x y : MV) (h : ¬ (Snd x ∧ Snd y)) : Cl Tryz.prog 82 #[.agg (mvc x).toArray, .agg (mvc y).toArray] w (RetBF w false 1) := by
  have hbo := fun w => rboth_bad w x y h
  clear h
  obtain ⟨xr, xc, A, n, k, l⟩ := x
  obtain ⟨yr, yc, A2, n2, k2, l2⟩ := y
  refine enter Tryz.func82 rfl rfl rfl ?_
  have hF := Fr.refl w
  repeat' (first | (refine TL.isOp ?_; first | (refine TL.isCall ?_; refine TL.call rfl rfl ?_; first | (refine (hbo _).mono ?_; rintro _ wy ⟨rfl, hE⟩; replace hF := hF.exts hE; clear hE; refine Back.mk ?_)) | (refine TL.isBin ?_; refine TL.cmpG rfl rfl rfl rfl (fun hc => ?_) (fun hc => ?_) <;> (try (first | (exfalso; omega) | exact absurd rfl hc))) | (apply TL.ev; (case hd => rfl); (case h => (first | exact ev_simple rfl | (apply Ev.isLoad; first | exact ev_loadAFr hF rfl (by refine ⟨?_, ?_⟩; (focus (repeat (first | exact InV.head | apply InV.tail))); rfl))))) | (refine TL.boxAFr hF (d := 2) (cs := [.int .i64 xr, .int .i64 xc, .slice A n k]) rfl rfl ?_; clear hF; intro w2 b2 hF) | (refine TL.boxAFr hF (d := 3) (cs := [.int .i64 yr, .int .i64 yc, .slice A2 n2 k2]) rfl rfl ?_; clear hF; intro w3 b3 hF)) | (refine T.is ?_; first | refine T.seq ?_ | refine T.region ?_ | refine T.cond_t rfl ?_ | refine T.ret ?_) | (refine G.is ?_; first | refine G.next ?_ | refine G.thenR ?_) | refine TL.nil ?_)
  exact G.ret2 rfl rfl rfl ⟨rfl, hF.ext⟩
theorem rlies_ok (w : World) (B : Option Addr) (m q : Nat) (l : List Int) (hs : Sl i64v w.heap w.heap.size B m q l) (r : Nat) (hm : m ≤ 1048576) : Cl Tryz.prog 77 #[.slice B m q, .int .i64 (r : Int)] w (fun e w' => ∃ b : Bool, (b = true ↔ InL l r) ∧ e = .returned (.bool b) ∧ Ext w w') := by
  have hlen := hs.len
  refine enter Tryz.func77 rfl rfl rfl ?_
  have hF := Fr.refl w
  repeat' (first | (refine TL.isOp ?_; first | (apply TL.ev; (case hd => rfl); (case h => (first | exact ev_simple rfl)))) | (refine T.is ?_; first | refine T.seq ?_ | refine T.region ?_ | refine T.block ?_) | (refine G.is ?_; first | refine G.next ?_) | refine TL.nil ?_)
  refine T.loop (α := Nat) (fun i => [(0, .slice B m q), (1, .int .i64 (r : Int)), (5, .int .i64 (i : Int))])
    (fun i w' => i ≤ m ∧ (∀ q, q < i → 0 ≤ l.getD q 0 ∧ l.getD q 0 < (r : Int)) ∧ Fr w w' [] []) (fun i => m - i) 0 (by repeat (first | exact Sub.nil _ | refine Sub.cons rfl ?_ | refine Sub.cons' rfl (int_congr (by omega)) ?_)) ⟨Nat.zero_le _, fun q hq => absurd hq (Nat.not_lt_zero _), hF⟩ ?_
  clear hF
  rintro i w2 ⟨hi, hq, hF⟩
  rcases Nat.lt_or_ge i m with hin | hin
  · obtain ⟨z, hz⟩ : ∃ z, l.getD i 0 = z := ⟨_, rfl⟩
    repeat' (first | (refine TL.isOp ?_; first | (refine TL.isG ?_; first | refine TL.grun rfl rfl rfl ?_ | refine TL.gskip rfl rfl rfl rfl ?_) | (refine TL.isBin ?_; refine TL.cmpG rfl rfl rfl rfl (fun hc => ?_) (fun hc => ?_) <;> (try (first | (exfalso; omega) | exact absurd rfl hc))) | (apply TL.ev; (case hd => rfl); (case h => (first | exact ev_simple rfl | (apply Ev.isBin; first | exact ev_arN rfl rfl rfl (by omega)) | (apply Ev.isLoad; first | exact ev_loadIz rfl (hs.ext hF.ext) hin hz) | exact ev_len rfl | exact ev_indexN rfl rfl hin (hs.ext hF.ext).some)))) | (refine T.is ?_; first | refine T.seq ?_ | refine T.region ?_ | refine T.block ?_ | refine T.cond_t rfl ?_ | refine T.cond_f rfl ?_ | refine T.ret ?_ | refine T.skip ?_) | (refine G.is ?_; first | refine G.next ?_ | refine G.blockN ?_ | refine G.blockR ?_ | refine G.thenR ?_) | refine TL.nil ?_)
    all_goals first
      | exact G.ret1 rfl rfl ⟨false, ⟨fun h => (by cases h), fun h => absurd h (InL.not (q := i) (by omega) (by rw [hz]; omega))⟩, rfl, hF.ext⟩
      | exact G.again (i + 1) (by repeat (first | exact Sub.nil _ | refine Sub.cons rfl ?_ | refine Sub.cons' rfl (int_congr (by omega)) ?_)) ⟨by omega, fun q hq' => (by
          rcases Nat.lt_or_ge q i with h | h
          · exact hq q h
          · obtain rfl : q = i := by omega
            rw [hz]; omega), hF⟩ (by omega)
  · obtain rfl : i = m := by omega
    repeat' (first | (refine TL.isOp ?_; first | (refine TL.isBin ?_; refine TL.cmpG rfl rfl rfl rfl (fun hc => ?_) (fun hc => ?_) <;> (try (first | (exfalso; omega) | exact absurd rfl hc))) | (apply TL.ev; (case hd => rfl); (case h => (first | exact ev_simple rfl | exact ev_len rfl)))) | (refine T.is ?_; first | refine T.seq ?_ | refine T.region ?_ | refine T.cond_f rfl ?_ | refine T.exit ?_ | refine T.ret ?_) | (refine G.is ?_; first | refine G.next ?_ | refine G.blockE ?_ | refine G.thenE ?_) | refine TL.nil ?_)
    exact G.ret1 rfl rfl ⟨true, ⟨fun _ => InL.of (fun q hq' => hq q (by omega)), fun _ => rfl⟩, rfl, hF.ext⟩
set_option maxRecDepth 100000 in
theorem rpick_ok (w : World) (x : MV) (r c K : Nat) (gx : GM w.heap x r c K) (hK : K ≤ 1099511627776) (B B' : Option Addr) (m q m' q' : Nat) (lr lc : List Int) (hsr : Sl i64v w.heap w.heap.size B m q lr) (hsc : Sl i64v w.heap w.heap.size B' m' q' lc) (him : m ≤ 1048576) (hjm : m' ≤ 1048576) :
    Cl Tryz.prog 37 #[.agg (mvc x).toArray, .slice B m q, .slice B' m' q'] w (RetPick w x r c K lr lc) := by
  have hck := fun w => rchkE_ok w x r c gx.sh
  have hld := fun i j (hi : i < r) (hj : j < c) => gx.load hi hj
  have hlr := fun w1 (hE : Ext w w1) => rlies_ok w1 B m q lr (hsr.ext hE).size r him
  have hlc := fun w1 (hE : Ext w w1) => rlies_ok w1 B' m' q' lc (hsc.ext hE).size c hjm
  unfold RetPick
  have hsx := gx.s
  have s1 := gx.sh
  have hlenr := hsr.len
  have hlenc := hsc.len
  clear gx
  generalize ent x c = F at *
  obtain ⟨xr, xc, A, n, k, l⟩ := x
  obtain ⟨hr1, hc1, hr, hcc, hn1⟩ := s1
  dsimp only at hr1 hc1 hn1 hsx hld
  subst hr1 hc1 hn1
  have hm := mul64 hr hcc
  by_cases hIr : InL lr r
  · by_cases hIc : InL lc c
    · by_cases h64 : lr.length ≤ 64 ∧ lc.length ≤ 64
      · refine Cl.mono (R := RetME w m m' (fun i j => F (lr.getD i 0).toNat (lc.getD j 0).toNat) K) ?_ fun e w' h' => (by rw [if_pos ⟨hIr, hIc⟩, if_pos h64, hlenr, hlenc]; exact h')
        have hm64 : m ≤ 64 ∧ m' ≤ 64 := by omega
        have hmm := mul64 hm64.1 hm64.2
        refine enter Tryz.func37 rfl rfl rfl ?_
        have hF := Fr.refl w
        repeat' (first | (refine TL.isOp ?_; first | (refine TL.isG ?_; first | refine TL.grun rfl rfl rfl ?_) | (refine TL.isCall ?_; refine TL.call rfl rfl ?_; first | (refine (hck _).mono ?_; rintro _ wy ⟨rfl, hE⟩; replace hF := hF.exts hE; clear hE; refine Back.mk ?_) | (refine (hlr _ hF.ext).mono ?_; rintro _ wy ⟨b, hb, rfl, hE⟩; obtain rfl := hb.2 hIr; clear hb; replace hF := hF.exts hE; clear hE; refine Back.mk ?_) | (refine (hlc _ hF.ext).mono ?_; rintro _ wy ⟨b, hb, rfl, hE⟩; obtain rfl := hb.2 hIc; clear hb; replace hF := hF.exts hE; clear hE; refine Back.mk ?_) | (refine (blank_ok _ m m' hm64.1 hm64.2).mono ?_; rintro _ wb ⟨b, rfl, hB⟩; replace hF := Fr.blank hF hB; clear hB; refine Back.mk ?_)) | (refine TL.isBin ?_; refine TL.cmpG rfl rfl rfl rfl (fun hc => ?_) (fun hc => ?_) <;> (try (first | (exfalso; omega) | exact absurd rfl hc))) | (apply TL.ev; (case hd => rfl); (case h => (first | exact ev_simple rfl | (apply Ev.isLoad; first | exact ev_loadFr hF rfl (by refine ⟨?_, ?_⟩; (focus (repeat (first | exact InV.head | apply InV.tail))); rfl) | exact ev_loadAFr hF rfl (by refine ⟨?_, ?_⟩; (focus (repeat (first | exact InV.head | apply InV.tail))); rfl)) | exact ev_len rfl | exact ev_fieldAddr rfl))) | (refine TL.storeAFr hF rfl rfl rfl rfl (by refine ⟨?_, ?_⟩; (focus (repeat (first | apply SetV.head | apply SetV.tail))); rfl) rfl ?_; clear hF; intro ws hF) | (refine TL.boxAFr hF (d := 3) (cs := [.int .i64 (r : Int), .int .i64 (c : Int), .slice A (r * c) k]) rfl rfl ?_; clear hF; intro w3 b3 hF) | (refine TL.allocFr hF (d := 6) rfl rfl ?_; clear hF; intro w6 b6 hF) | (refine TL.allocFr hF (d := 11) rfl rfl ?_; clear hF; intro w11 b11 hF)) | (refine T.is ?_; first | refine T.seq ?_ | refine T.region ?_ | refine T.block ?_ | refine T.cond_f rfl ?_ | refine T.skip ?_) | (refine G.is ?_; first | refine G.next ?_) | refine TL.nil ?_)
        obtain ⟨Z, hZ⟩ : ∃ Z : Nat → Int, Z = fun p => F (lr.getD (p / m') 0).toNat (lc.getD (p % m') 0).toNat := ⟨_, rfl⟩
        refine T.loop (α := Nat × List IV) (fun x => [(1, .slice B m q), (2, .slice B' m' q'), (3, .pointer (some ⟨b3, 0, none⟩)), (6, .pointer (some ⟨b6, 0, none⟩)), (11, .pointer (some ⟨b11, 0, none⟩)), (12, .int .i64 (x.1 : Int))])
          (fun x w' => x.1 ≤ m ∧ x.2.length = m * m' ∧ Fr w w' [⟨b, 30, x.2.flatMap ivc⟩, ⟨b11, 27, [.int .i64 (m : Int), .int .i64 (m' : Int), .slice (some ⟨b, 0, none⟩) (m * m') (m * m')]⟩, ⟨b6, 27, [.int .i64 0, .int .i64 0, .slice none 0 0]⟩, ⟨b3, 27, [.int .i64 (r : Int), .int .i64 (c : Int), .slice A (r * c) k]⟩] [dpLK (m * m') x.2 (upZ (x.1 * m') Z) K])
          (fun x => m - x.1) (0, List.replicate (m * m') nought) (by repeat (first | exact Sub.nil _ | refine Sub.cons rfl ?_ | refine Sub.cons' rfl (int_congr (by omega)) ?_)) ⟨Nat.zero_le _, List.length_replicate .., Fr.addLK hF.swap ((lk_zeros _ _ _).congrN fun q _ => by unfold upZ; rw [Nat.zero_mul, if_neg (Nat.not_lt_zero _)])⟩ ?_
        clear hF
        rintro ⟨i, zl⟩ w2 ⟨hi, hzl, hF⟩
        dsimp only at hi hzl hF ⊢
        rcases Nat.lt_or_ge i m with hin | hin
        · repeat' (first | (refine TL.isOp ?_; first | (refine TL.isBin ?_; refine TL.cmpG rfl rfl rfl rfl (fun hc => ?_) (fun hc => ?_) <;> (try (first | (exfalso; omega) | exact absurd rfl hc))) | (apply TL.ev; (case hd => rfl); (case h => (first | exact ev_simple rfl | exact ev_len rfl)))) | (refine T.is ?_; first | refine T.seq ?_ | refine T.region ?_ | refine T.block ?_ | refine T.cond_t rfl ?_ | refine T.skip ?_) | (refine G.is ?_; first | refine G.next ?_) | refine TL.nil ?_)
          refine T.loop (α := Nat × List IV) (fun x => [(1, .slice B m q), (2, .slice B' m' q'), (3, .pointer (some ⟨b3, 0, none⟩)), (6, .pointer (some ⟨b6, 0, none⟩)), (11, .pointer (some ⟨b11, 0, none⟩)), (12, .int .i64 (i : Int)), (13, .int .i64 (x.1 : Int))])
            (fun x w' => x.1 ≤ m' ∧ x.2.length = m * m' ∧ Fr w w' [⟨b, 30, x.2.flatMap ivc⟩, ⟨b11, 27, [.int .i64 (m : Int), .int .i64 (m' : Int), .slice (some ⟨b, 0, none⟩) (m * m') (m * m')]⟩, ⟨b6, 27, [.int .i64 0, .int .i64 0, .slice none 0 0]⟩, ⟨b3, 27, [.int .i64 (r : Int), .int .i64 (c : Int), .slice A (r * c) k]⟩] [dpLK (m * m') x.2 (upZ (i * m' + x.1) Z) K])
            (fun x => m' - x.1) (0, zl) (by repeat (first | exact Sub.nil _ | refine Sub.cons rfl ?_ | refine Sub.cons' rfl (int_congr (by omega)) ?_)) ⟨Nat.zero_le _, hzl, hF⟩ ?_
          clear hF hzl
          clear zl
          rintro ⟨j, zl⟩ w3 ⟨hj, hzl, hF⟩
          dsimp only at hj hzl hF ⊢
          rcases Nat.lt_or_ge j m' with hjn | hjn
          · have hpl := place_lt hin hjn
            obtain ⟨zi, ei, hzi, ei2⟩ := hIr.at (show i < lr.length by omega)
            obtain ⟨zj, ej, hzj, ej2⟩ := hIc.at (show j < lc.length by omega)
            have hpf := place_lt (i := zi) (j := zj) (r := r) (c := c) hzi hzj
            obtain ⟨y, hy, gy, hyn, hyv⟩ := hld zi zj hzi hzj
            have hZp : Z (i * m' + j) = ival y := by rw [hZ]; dsimp only; rw [(divmod2 hjn).1, (divmod2 hjn).2, ← ei2, ← ej2, hyv]
            repeat' (first | (refine TL.isOp ?_; first | (refine TL.isCall ?_; refine TL.call rfl rfl ?_; first | (refine (r5least_t _ y (gy.ext hF.ext) (by omega)).mono ?_; rintro _ wl ⟨u, rfl, hLu, hE, hKu⟩; replace hF := Fr.addLI (hF.exts hE) hLu; clear hE hLu; refine Back.mk ?_)) | (refine TL.isBin ?_; refine TL.cmpG rfl rfl rfl rfl (fun hc => ?_) (fun hc => ?_) <;> (try (first | (exfalso; omega) | exact absurd rfl hc))) | (apply TL.ev; (case hd => rfl); (case h => (first | exact ev_simple rfl | (apply Ev.isBin; first | exact ev_arN rfl rfl rfl (by omega)) | exact ev_len rfl))) | (refine TL.storeAtFr hF (f := ivc) (i := i * m' + j) u rfl rfl rfl rfl (fun _ => rfl) (by rw [hzl]; exact hpl) (ivc_noV zl) (by repeat (first | apply SetV.head | apply SetV.tail)) ?_; clear hF; intro ws hF)) | (refine TF.is ?_; first | refine TF.nil ?_ | refine TF.e rfl ?_ | (refine TF.pick rfl ?_; first | (apply TFo.ev; (case hd => rfl); (case h => (intro wh hF; first | exact ev_simple rfl | (apply Ev.isBin; first | exact ev_arN rfl rfl rfl (by omega)) | (apply Ev.isLoad; first | exact ev_loadFr hF rfl (by refine ⟨?_, ?_⟩; (focus (repeat (first | exact InV.head | apply InV.tail))); rfl) | exact ev_loadIz rfl (hsr.ext hF.ext) hin ei | exact ev_loadIz rfl (hsc.ext hF.ext) hjn ej | exact ev_loadM rfl (hsx.ext hF.ext) hy) | exact ev_len rfl | exact ev_fieldAddr rfl | exact ev_indexN rfl rfl hin (hsr.ext hF.ext).some | exact ev_indexN rfl rfl hjn (hsc.ext hF.ext).some | exact ev_indexM rfl rfl hpf (hsx.ext hF.ext).some | exact ev_indexM rfl rfl hpl (.inr rfl)))))) | (refine T.is ?_; first | refine T.seq ?_ | refine T.region ?_ | refine T.block ?_ | refine T.cond_t rfl ?_ | refine T.skip ?_ | (refine T.regionFr hF 17 26 (.s 0 (.s 1 (.s 2 (.s 3 (.s 4 (.s 5 (.s 6 (.s 7 (.s 8 (.s 9 (.s 10 (.s 11 (.s 12 (.s 13 (.s 14 (.s 15 (.s 16 (.s 17 (.s 18 (.s 19 (.s 20 (.s 21 (.s 22 (.s 23 (.e 24 (.s 25 (.e 26 .nil))))))))))))))))))))))))))) mixed (by kernel_rfl) ?_; clear hF; intro wr hF)) | (refine G.is ?_; first | refine G.next ?_ | refine G.blockN ?_ | refine G.only ?_ | refine G.treeEnd rfl ?_ | refine G.tree rfl (by first | exact hF | exact hF.weak (by repeat (first | exact List.Sublist.refl _ | apply List.Sublist.cons)) (by repeat (first | exact allR | apply allT)) | exact hF.weak (by repeat (first | exact List.Sublist.refl _ | apply List.Sublist.cons)) (by repeat (first | exact allN | refine allH (by repeat (first | exact memH | apply memT)) ?_))) ?_) | refine TL.nil ?_)
            have hk := (Fr.lk hF (i := m * m') (l := zl) (by repeat (first | exact memH | apply memT))).setAtN (Z' := upZ (i * m' + j + 1) Z) (u := u) (q := i * m' + j) (by omega) (by rw [upZ_succ, hZp]; exact Fr.li hF (by repeat (first | exact memH | apply memT))) (by omega) (fun p hp => upZ_ne hp)
            exact G.again (j + 1, zl.set (i * m' + j) u) (by repeat (first | exact Sub.nil _ | refine Sub.cons rfl ?_ | refine Sub.cons' rfl (int_congr (by omega)) ?_)) ⟨by dsimp only; omega, by rw [List.length_set]; exact hzl, Fr.addLK (hF.weak (List.Sublist.refl _) allN) hk⟩ (by dsimp only; omega)
          · obtain rfl : j = m' := by omega
            repeat' (first | (refine TL.isOp ?_; first | (refine TL.isBin ?_; refine TL.cmpG rfl rfl rfl rfl (fun hc => ?_) (fun hc => ?_) <;> (try (first | (exfalso; omega) | exact absurd rfl hc))) | (apply TL.ev; (case hd => rfl); (case h => (first | exact ev_simple rfl | (apply Ev.isBin; first | exact ev_arN rfl rfl rfl (by omega)) | exact ev_len rfl)))) | (refine T.is ?_; first | refine T.seq ?_ | refine T.region ?_ | refine T.cond_f rfl ?_ | refine T.exit ?_) | (refine G.is ?_; first | refine G.next ?_ | refine G.blockN ?_ | refine G.blockE ?_ | refine G.thenE ?_) | refine TL.nil ?_)
            exact G.again (i + 1, zl) (by repeat (first | exact Sub.nil _ | refine Sub.cons rfl ?_ | refine Sub.cons' rfl (int_congr (by omega)) ?_)) ⟨by dsimp only; omega, hzl, by dsimp only; rw [Nat.add_mul, Nat.one_mul]; exact hF⟩ (by dsimp only; omega)
        · obtain rfl : i = m := by omega
          repeat' (first | (refine TL.isOp ?_; first | (refine TL.isBin ?_; refine TL.cmpG rfl rfl rfl rfl (fun hc => ?_) (fun hc => ?_) <;> (try (first | (exfalso; omega) | exact absurd rfl hc))) | (apply TL.ev; (case hd => rfl); (case h => (first | exact ev_simple rfl | (apply Ev.isLoad; first | exact ev_loadAFr hF rfl (by refine ⟨?_, ?_⟩; (focus (repeat (first | exact InV.head | apply InV.tail))); rfl)) | exact ev_len rfl))) | (refine TL.storeAFr hF rfl rfl rfl rfl (by refine ⟨?_, ?_⟩; (focus (repeat (first | apply SetV.head | apply SetV.tail))); rfl) rfl ?_; clear hF; intro ws hF)) | (refine T.is ?_; first | refine T.seq ?_ | refine T.region ?_ | refine T.cond_f rfl ?_ | refine T.exit ?_ | refine T.ret ?_) | (refine G.is ?_; first | refine G.next ?_ | refine G.blockE ?_ | refine G.thenE ?_) | refine TL.nil ?_)
          have hb := (hF.lo (b := b) (by repeat (first | exact InV.head | apply InV.tail))).resolve_right id
          exact G.retC2 rfl rfl rfl (held_agg (hF.var (by repeat (first | exact InV.head | apply InV.tail))) rfl) ⟨⟨i, m', some ⟨b, 0, none⟩, i * m', i * m', zl⟩, rfl, lm_of (hF.var (by repeat (first | exact InV.head | apply InV.tail))) hzl hm64.1 hm64.2 (Fr.lk hF (by repeat (first | exact memH | apply memT))) (fun a q ha hq => by rw [upZ_end (place_lt ha hq), hZ]; dsimp only; rw [(divmod2 hq).1, (divmod2 hq).2]), hF.ext, .inr ⟨b, rfl, hb⟩⟩
      · refine Cl.mono (R := RetMF w 5) ?_ fun e w' h' => (by rw [if_pos ⟨hIr, hIc⟩, if_neg h64]; exact h')
        refine enter Tryz.func37 rfl rfl rfl ?_
        have hF := Fr.refl w
        repeat' (first | (refine TL.isOp ?_; first | (refine TL.isG ?_; first | refine TL.grun rfl rfl rfl ?_ | refine TL.gskip rfl rfl rfl rfl ?_) | (refine TL.isCall ?_; refine TL.call rfl rfl ?_; first | (refine (hck _).mono ?_; rintro _ wy ⟨rfl, hE⟩; replace hF := hF.exts hE; clear hE; refine Back.mk ?_) | (refine (hlr _ hF.ext).mono ?_; rintro _ wy ⟨b, hb, rfl, hE⟩; obtain rfl := hb.2 hIr; clear hb; replace hF := hF.exts hE; clear hE; refine Back.mk ?_) | (refine (hlc _ hF.ext).mono ?_; rintro _ wy ⟨b, hb, rfl, hE⟩; obtain rfl := hb.2 hIc; clear hb; replace hF := hF.exts hE; clear hE; refine Back.mk ?_)) | (refine TL.isBin ?_; refine TL.cmpG rfl rfl rfl rfl (fun hc => ?_) (fun hc => ?_) <;> (try (first | (exfalso; omega) | exact absurd rfl hc))) | (apply TL.ev; (case hd => rfl); (case h => (first | exact ev_simple rfl | (apply Ev.isLoad; first | exact ev_loadFr hF rfl (by refine ⟨?_, ?_⟩; (focus (repeat (first | exact InV.head | apply InV.tail))); rfl) | exact ev_loadAFr hF rfl (by refine ⟨?_, ?_⟩; (focus (repeat (first | exact InV.head | apply InV.tail))); rfl)) | exact ev_len rfl | exact ev_fieldAddr rfl | exact ev_buildX rfl rfl))) | (refine TL.storeAFr hF rfl rfl rfl rfl (by refine ⟨?_, ?_⟩; (focus (repeat (first | apply SetV.head | apply SetV.tail))); rfl) rfl ?_; clear hF; intro ws hF) | (refine TL.boxAFr hF (d := 3) (cs := [.int .i64 (r : Int), .int .i64 (c : Int), .slice A (r * c) k]) rfl rfl ?_; clear hF; intro w3 b3 hF) | (refine TL.allocFr hF (d := 6) rfl rfl ?_; clear hF; intro w6 b6 hF)) | (refine T.is ?_; first | refine T.seq ?_ | refine T.region ?_ | refine T.cond_t rfl ?_ | refine T.cond_f rfl ?_ | refine T.ret ?_ | refine T.skip ?_) | (refine G.is ?_; first | refine G.next ?_ | refine G.thenR ?_) | refine TL.nil ?_)
        all_goals exact G.retC2 rfl rfl rfl (held_agg (hF.var (by repeat (first | exact InV.head | apply InV.tail))) rfl) ⟨rfl, hF.ext⟩
    · refine Cl.mono (R := RetMF w 3) ?_ fun e w' h' => (by rw [if_neg (fun h => hIc h.2)]; exact h')
      refine enter Tryz.func37 rfl rfl rfl ?_
      have hF := Fr.refl w
      repeat' (first | (refine TL.isOp ?_; first | (refine TL.isG ?_; first | refine TL.grun rfl rfl rfl ?_) | (refine TL.isCall ?_; refine TL.call rfl rfl ?_; first | (refine (hck _).mono ?_; rintro _ wy ⟨rfl, hE⟩; replace hF := hF.exts hE; clear hE; refine Back.mk ?_) | (refine (hlr _ hF.ext).mono ?_; rintro _ wy ⟨b, hb, rfl, hE⟩; obtain rfl := hb.2 hIr; clear hb; replace hF := hF.exts hE; clear hE; refine Back.mk ?_) | (refine (hlc _ hF.ext).mono ?_; rintro _ wy ⟨b, hb, rfl, hE⟩; obtain rfl : b = false := Bool.eq_false_iff.2 (fun h => hIc (hb.1 h)); clear hb; replace hF := hF.exts hE; clear hE; refine Back.mk ?_)) | (refine TL.isBin ?_; refine TL.cmpG rfl rfl rfl rfl (fun hc => ?_) (fun hc => ?_) <;> (try (first | (exfalso; omega) | exact absurd rfl hc))) | (apply TL.ev; (case hd => rfl); (case h => (first | exact ev_simple rfl | (apply Ev.isLoad; first | exact ev_loadFr hF rfl (by refine ⟨?_, ?_⟩; (focus (repeat (first | exact InV.head | apply InV.tail))); rfl) | exact ev_loadAFr hF rfl (by refine ⟨?_, ?_⟩; (focus (repeat (first | exact InV.head | apply InV.tail))); rfl)) | exact ev_fieldAddr rfl | exact ev_buildX rfl rfl))) | (refine TL.storeAFr hF rfl rfl rfl rfl (by refine ⟨?_, ?_⟩; (focus (repeat (first | apply SetV.head | apply SetV.tail))); rfl) rfl ?_; clear hF; intro ws hF) | (refine TL.boxAFr hF (d := 3) (cs := [.int .i64 (r : Int), .int .i64 (c : Int), .slice A (r * c) k]) rfl rfl ?_; clear hF; intro w3 b3 hF) | (refine TL.allocFr hF (d := 6) rfl rfl ?_; clear hF; intro w6 b6 hF)) | (refine T.is ?_; first | refine T.seq ?_ | refine T.region ?_ | refine T.cond_t rfl ?_ | refine T.cond_f rfl ?_ | refine T.ret ?_ | refine T.skip ?_) | (refine G.is ?_; first | refine G.next ?_ | refine G.thenR ?_) | refine TL.nil ?_)
      exact G.retC2 rfl rfl rfl (held_agg (hF.var (by repeat (first | exact InV.head | apply InV.tail))) rfl) ⟨rfl, hF.ext⟩
  · refine Cl.mono (R := RetMF w 3) ?_ fun e w' h' => (by rw [if_neg (fun h => hIr h.1)]; exact h')
    refine enter Tryz.func37 rfl rfl rfl ?_
    have hF := Fr.refl w
    repeat' (first | (refine TL.isOp ?_; first | (refine TL.isG ?_; first | refine TL.gskip rfl rfl rfl rfl ?_) | (refine TL.isCall ?_; refine TL.call rfl rfl ?_; first | (refine (hck _).mono ?_; rintro _ wy ⟨rfl, hE⟩; replace hF := hF.exts hE; clear hE; refine Back.mk ?_) | (refine (hlr _ hF.ext).mono ?_; rintro _ wy ⟨b, hb, rfl, hE⟩; obtain rfl : b = false := Bool.eq_false_iff.2 (fun h => hIr (hb.1 h)); clear hb; replace hF := hF.exts hE; clear hE; refine Back.mk ?_) | (refine (hlc _ hF.ext).mono ?_; rintro _ wy ⟨b, hb, rfl, hE⟩; clear hb; replace hF := hF.exts hE; clear hE; refine Back.mk ?_)) | (refine TL.isBin ?_; refine TL.cmpG rfl rfl rfl rfl (fun hc => ?_) (fun hc => ?_) <;> (try (first | (exfalso; omega) | exact absurd rfl hc))) | (apply TL.ev; (case hd => rfl); (case h => (first | exact ev_simple rfl | (apply Ev.isLoad; first | exact ev_loadFr hF rfl (by refine ⟨?_, ?_⟩; (focus (repeat (first | exact InV.head | apply InV.tail))); rfl) | exact ev_loadAFr hF rfl (by refine ⟨?_, ?_⟩; (focus (repeat (first | exact InV.head | apply InV.tail))); rfl)) | exact ev_fieldAddr rfl | exact ev_buildX rfl rfl))) | (refine TL.storeAFr hF rfl rfl rfl rfl (by refine ⟨?_, ?_⟩; (focus (repeat (first | apply SetV.head | apply SetV.tail))); rfl) rfl ?_; clear hF; intro ws hF) | (refine TL.boxAFr hF (d := 3) (cs := [.int .i64 (r : Int), .int .i64 (c : Int), .slice A (r * c) k]) rfl rfl ?_; clear hF; intro w3 b3 hF) | (refine TL.allocFr hF (d := 6) rfl rfl ?_; clear hF; intro w6 b6 hF)) | (refine T.is ?_; first | refine T.seq ?_ | refine T.region ?_ | refine T.cond_t rfl ?_ | refine T.cond_f rfl ?_ | refine T.ret ?_ | refine T.skip ?_) | (refine G.is ?_; first | refine G.next ?_ | refine G.thenR ?_) | refine TL.nil ?_)
    exact G.retC2 rfl rfl rfl (held_agg (hF.var (by repeat (first | exact InV.head | apply InV.tail))) rfl) ⟨rfl, hF.ext⟩
theorem rpick_bad (w : World) (x : MV) (B B' : Option Addr) (m q m' q' : Nat) (h : ¬ Snd x) : Cl Tryz.prog 37 #[.agg (mvc x).toArray, .slice B m q, .slice B' m' q'] w (RetMF w 1) := by
  have hck := fun w => rchk_any w x (.inr ⟨h, rfl⟩)
  clear h
  obtain ⟨xr, xc, A, n, k, l⟩ := x
  refine enter Tryz.func37 rfl rfl rfl ?_
  have hF := Fr.refl w
  repeat' (first | (refine TL.isOp ?_; first | (refine TL.isCall ?_; refine TL.call rfl rfl ?_; first | (refine (hck _).mono ?_; rintro _ wy ⟨rfl, hE⟩; replace hF := hF.exts hE; clear hE; refine Back.mk ?_)) | (refine TL.isBin ?_; refine TL.cmpG rfl rfl rfl rfl (fun hc => ?_) (fun hc => ?_) <;> (try (first | (exfalso; omega) | exact absurd rfl hc))) | (apply TL.ev; (case hd => rfl); (case h => (first | exact ev_simple rfl | (apply Ev.isLoad; first | exact ev_loadAFr hF rfl (by refine ⟨?_, ?_⟩; (focus (repeat (first | exact InV.head | apply InV.tail))); rfl)) | exact ev_buildX rfl rfl))) | (refine TL.storeAFr hF rfl rfl rfl rfl (by refine ⟨?_, ?_⟩; (focus (repeat (first | apply SetV.head | apply SetV.tail))); rfl) rfl ?_; clear hF; intro ws hF) | (refine TL.boxAFr hF (d := 3) (cs := [.int .i64 xr, .int .i64 xc, .slice A n k]) rfl rfl ?_; clear hF; intro w3 b3 hF) | (refine TL.allocFr hF (d := 6) rfl rfl ?_; clear hF; intro w6 b6 hF)) | (refine T.is ?_; first | refine T.seq ?_ | refine T.region ?_ | refine T.cond_t rfl ?_ | refine T.ret ?_) | (refine G.is ?_; first | refine G.next ?_ | refine G.thenR ?_) | refine TL.nil ?_)
  exact G.retC2 rfl rfl rfl (held_agg (hF.var (by repeat (first | exact InV.head | apply InV.tail))) rfl) ⟨rfl, hF.ext⟩
end Go.Proofs.YtlhmehikajidhaaGreat
namespace Go.Proofs.YtlhmehikajidhaaGreat
open Go Go.Eng Go.Proofs Go.NatM Go.RowKit
set_option maxRecDepth 100000 in
theorem rkron_ok (w : World) (x y : MV) (r c p q R C Kx Ky : Nat) (gx : GM w.heap x r c Kx) (gy : GM w.heap y p q Ky) (hKx : Kx ≤ 536870912) (hKy : Ky ≤ 536870912) (hR : R = r * p) (hC : C = c * q) (hR64 : R ≤ 64) (hC64 : C ≤ 64) :
    Cl Tryz.prog 40 #[.agg (mvc x).toArray, .agg (mvc y).toArray] w (RetME w R C (fun i j => ent x c (i / p) (j / q) * ent y q (i % p) (j % q)) (Kx + Ky)) := by
  have hbo := fun w => rboth_ok w x y gx.sh.snd gy.sh.snd
  have hld := fun i j (hi : i < r) (hj : j < c) => gx.load hi hj
  have hld2 := fun i j (hi : i < p) (hj : j < q) => gy.load hi hj
  have hsx := gx.s
  have hsy := gy.s
  have s1 := gx.sh
  have s2 := gy.sh
  clear gx gy
  generalize ent x c = F at *
  generalize ent y q = F2 at *
  obtain ⟨xr, xc, A, n, k, l⟩ := x
  obtain ⟨yr, yc, A2, n2, k2, l2⟩ := y
  obtain ⟨hr1, hc1, hr, hcc, hn1⟩ := s1
  obtain ⟨hr2, hc2, hp64, hq64, hn2⟩ := s2
  dsimp only at hr1 hc1 hn1 hr2 hc2 hn2 hsx hsy hld hld2
  subst hr1 hc1 hn1 hr2 hc2 hn2
  have hm1 := mul64 hR64 hC64
  have hm2 := mul64 hr hcc
  have hm3 := mul64 hp64 hq64
  have hRp : (r : Int) * (p : Int) = (R : Int) := by rw [hR]; exact (Int.natCast_mul r p).symm
  have hCq : (c : Int) * (q : Int) = (C : Int) := by rw [hC]; exact (Int.natCast_mul c q).symm
  obtain ⟨Z, hZ⟩ : ∃ Z : Nat → Int, Z = fun t => F (t / C / p) (t % C / q) * F2 (t / C % p) (t % C % q) := ⟨_, rfl⟩
  refine enter Tryz.func40 rfl rfl rfl ?_
  have hF := Fr.refl w
  repeat' (first | (refine TL.isOp ?_; first | (refine TL.isG ?_; first | refine TL.grun rfl rfl rfl ?_) | (refine TL.isCall ?_; refine TL.call rfl rfl ?_; first | (refine (hbo _).mono ?_; rintro _ wy ⟨rfl, hE⟩; replace hF := hF.exts hE; clear hE; refine Back.mk ?_) | ((simp only [← Int.natCast_mul, ← hR, ← hC]); refine (blank_ok _ R C hR64 hC64).mono ?_; rintro _ wb ⟨b, rfl, hB⟩; replace hF := Fr.blank hF hB; clear hB; refine Back.mk ?_)) | (refine TL.isBin ?_; refine TL.cmpG rfl rfl rfl rfl (fun hc => ?_) (fun hc => ?_) <;> (try (first | (exfalso; omega) | exact absurd rfl hc))) | (apply TL.ev; (case hd => rfl); (case h => (first | exact ev_simple rfl | (apply Ev.isBin; first | exact ev_arN rfl rfl rfl (by omega)) | (apply Ev.isLoad; first | exact ev_loadFr hF rfl (by refine ⟨?_, ?_⟩; (focus (repeat (first | exact InV.head | apply InV.tail))); rfl) | exact ev_loadAFr hF rfl (by refine ⟨?_, ?_⟩; (focus (repeat (first | exact InV.head | apply InV.tail))); rfl)) | exact ev_fieldAddr rfl))) | (refine TL.storeAFr hF rfl rfl rfl rfl (by refine ⟨?_, ?_⟩; (focus (repeat (first | apply SetV.head | apply SetV.tail))); rfl) rfl ?_; clear hF; intro ws hF) | (refine TL.boxAFr hF (d := 2) (cs := [.int .i64 (r : Int), .int .i64 (c : Int), .slice A (r * c) k]) rfl rfl ?_; clear hF; intro w2 b2 hF) | (refine TL.boxAFr hF (d := 3) (cs := [.int .i64 (p : Int), .int .i64 (q : Int), .slice A2 (p * q) k2]) rfl rfl ?_; clear hF; intro w3 b3 hF) | (refine TL.allocFr hF (d := 4) rfl rfl ?_; clear hF; intro w4 b4 hF) | (refine TL.allocFr hF (d := 7) rfl rfl ?_; clear hF; intro w7 b7 hF)) | (refine T.is ?_; first | refine T.seq ?_ | refine T.region ?_ | refine T.block ?_ | refine T.cond_f rfl ?_ | refine T.skip ?_) | (refine G.is ?_; first | refine G.next ?_) | refine TL.nil ?_)
  refine T.loop (α := Nat × List IV) (fun x => [(2, .pointer (some ⟨b2, 0, none⟩)), (3, .pointer (some ⟨b3, 0, none⟩)), (4, .pointer (some ⟨b4, 0, none⟩)), (7, .pointer (some ⟨b7, 0, none⟩)), (8, .int .i64 (x.1 : Int))])
    (fun x w' => x.1 ≤ R ∧ x.2.length = R * C ∧ Fr w w' [⟨b, 30, x.2.flatMap ivc⟩, ⟨b7, 27, [.int .i64 (R : Int), .int .i64 (C : Int), .slice (some ⟨b, 0, none⟩) (R * C) (R * C)]⟩, ⟨b4, 27, [.int .i64 0, .int .i64 0, .slice none 0 0]⟩, ⟨b3, 27, [.int .i64 (p : Int), .int .i64 (q : Int), .slice A2 (p * q) k2]⟩, ⟨b2, 27, [.int .i64 (r : Int), .int .i64 (c : Int), .slice A (r * c) k]⟩] [dpLK (R * C) x.2 (upZ (x.1 * C) Z) (Kx + Ky)])
    (fun x => R - x.1) (0, List.replicate (R * C) nought) (by repeat (first | exact Sub.nil _ | refine Sub.cons rfl ?_ | refine Sub.cons' rfl (int_congr (by omega)) ?_)) ⟨Nat.zero_le _, List.length_replicate .., Fr.addLK hF.swap ((lk_zeros _ _ _).congrN fun q _ => by unfold upZ; rw [Nat.zero_mul, if_neg (Nat.not_lt_zero _)])⟩ ?_
  clear hF
  rintro ⟨i, zl⟩ w2 ⟨hi, hzl, hF⟩
  dsimp only at hi hzl hF ⊢
  rcases Nat.lt_or_ge i R with hin | hin
  · repeat' (first | (refine TL.isOp ?_; first | (refine TL.isBin ?_; refine TL.cmpG rfl rfl rfl rfl (fun hc => ?_) (fun hc => ?_) <;> (try (first | (exfalso; omega) | exact absurd rfl hc))) | (apply TL.ev; (case hd => rfl); (case h => (first | exact ev_simple rfl | (apply Ev.isLoad; first | exact ev_loadFr hF rfl (by refine ⟨?_, ?_⟩; (focus (repeat (first | exact InV.head | apply InV.tail))); rfl)) | exact ev_fieldAddr rfl)))) | (refine T.is ?_; first | refine T.seq ?_ | refine T.region ?_ | refine T.block ?_ | refine T.cond_t rfl ?_ | refine T.skip ?_) | (refine G.is ?_; first | refine G.next ?_) | refine TL.nil ?_)
    refine T.loop (α := Nat × List IV) (fun x => [(2, .pointer (some ⟨b2, 0, none⟩)), (3, .pointer (some ⟨b3, 0, none⟩)), (4, .pointer (some ⟨b4, 0, none⟩)), (7, .pointer (some ⟨b7, 0, none⟩)), (8, .int .i64 (i : Int)), (9, .int .i64 (x.1 : Int))])
      (fun x w' => x.1 ≤ C ∧ x.2.length = R * C ∧ Fr w w' [⟨b, 30, x.2.flatMap ivc⟩, ⟨b7, 27, [.int .i64 (R : Int), .int .i64 (C : Int), .slice (some ⟨b, 0, none⟩) (R * C) (R * C)]⟩, ⟨b4, 27, [.int .i64 0, .int .i64 0, .slice none 0 0]⟩, ⟨b3, 27, [.int .i64 (p : Int), .int .i64 (q : Int), .slice A2 (p * q) k2]⟩, ⟨b2, 27, [.int .i64 (r : Int), .int .i64 (c : Int), .slice A (r * c) k]⟩] [dpLK (R * C) x.2 (upZ (i * C + x.1) Z) (Kx + Ky)])
      (fun x => C - x.1) (0, zl) (by repeat (first | exact Sub.nil _ | refine Sub.cons rfl ?_ | refine Sub.cons' rfl (int_congr (by omega)) ?_)) ⟨Nat.zero_le _, hzl, hF⟩ ?_
    clear hF hzl
    clear zl
    rintro ⟨j, zl⟩ w3 ⟨hj, hzl, hF⟩
    dsimp only at hj hzl hF ⊢
    rcases Nat.lt_or_ge j C with hjn | hjn
    · have hpl := place_lt hin hjn
      obtain ⟨i1, i2⟩ := dm_lt (hR ▸ hin)
      obtain ⟨j1, j2⟩ := dm_lt (hC ▸ hjn)
      have hp1 := place_lt i1 j1
      have hp2 := place_lt i2 j2
      have ha1 := Nat.le_add_right (i / p * c) (j / q)
      have ha2 := Nat.le_add_right (i % p * q) (j % q)
      have hb1 : i / p * c ≤ 4096 := by omega
      have hb2 : i % p * q ≤ 4096 := by omega
      have hb3 : i / p * c + j / q ≤ 4096 := by omega
      have hb4 : i % p * q + j % q ≤ 4096 := by omega
      have hp0 : 0 < p := by omega
      have hq0 : 0 < q := by omega
      obtain ⟨y1, hy1, g1, n1, v1⟩ := hld (i / p) (j / q) i1 j1
      obtain ⟨y2, hy2, g2, n2, v2⟩ := hld2 (i % p) (j % q) i2 j2
      have hZp : Z (i * C + j) = ival y1 * ival y2 := by rw [hZ]; dsimp only; rw [(divmod2 hjn).1, (divmod2 hjn).2, v1, v2]
      repeat' (first | (refine TL.isOp ?_; first | (refine TL.isCall ?_; refine TL.call rfl rfl ?_; first | (refine (r5mul_ok _ y1 y2 (g1.ext hF.ext) (g2.ext hF.ext) (by omega) (by omega)).mono ?_; rintro _ wl ⟨u, rfl, hLu, hE, hKu⟩; replace hF := Fr.addLI (hF.exts hE) hLu; clear hE hLu; refine Back.mk ?_)) | (refine TL.isBin ?_; refine TL.cmpG rfl rfl rfl rfl (fun hc => ?_) (fun hc => ?_) <;> (try (first | (exfalso; omega) | exact absurd rfl hc))) | (apply TL.ev; (case hd => rfl); (case h => (first | exact ev_simple rfl | (apply Ev.isBin; first | exact ev_arN rfl rfl rfl (by omega)) | (apply Ev.isLoad; first | exact ev_loadFr hF rfl (by refine ⟨?_, ?_⟩; (focus (repeat (first | exact InV.head | apply InV.tail))); rfl)) | exact ev_fieldAddr rfl))) | (refine TL.storeAFr hF rfl rfl rfl rfl (by refine ⟨?_, ?_⟩; (focus (repeat (first | apply SetV.head | apply SetV.tail))); rfl) rfl ?_; clear hF; intro ws hF) | (refine TL.allocFr hF (d := 10) rfl rfl ?_; clear hF; intro w10 b10 hF) | (refine TL.allocFr hF (d := 11) rfl rfl ?_; clear hF; intro w11 b11 hF) | (refine TL.storeAtFr hF (f := ivc) (i := i * C + j) u rfl rfl rfl rfl (fun _ => rfl) (by rw [hzl]; exact hpl) (ivc_noV zl) (by repeat (first | apply SetV.head | apply SetV.tail)) ?_; clear hF; intro ws hF)) | (refine TF.is ?_; first | refine TF.nil ?_ | refine TF.e rfl ?_ | (refine TF.pick rfl ?_; first | (apply TFo.ev; (case hd => rfl); (case h => (intro wh hF; first | exact ev_simple rfl | (apply Ev.isBin; first | exact ev_arN rfl rfl rfl (by omega)) | (apply Ev.isLoad; first | exact ev_loadFr hF rfl (by refine ⟨?_, ?_⟩; (focus (repeat (first | exact InV.head | apply InV.tail))); rfl) | exact ev_loadAFr hF rfl (by refine ⟨?_, ?_⟩; (focus (repeat (first | exact InV.head | apply InV.tail))); rfl) | exact ev_loadM rfl (hsx.ext hF.ext) hy1 | exact ev_loadM rfl (hsy.ext hF.ext) hy2) | exact ev_fieldAddr rfl | exact ev_indexM rfl rfl hp1 (hsx.ext hF.ext).some | exact ev_indexM rfl rfl hp2 (hsy.ext hF.ext).some | exact ev_indexM rfl rfl hpl (.inr rfl)))))) | (refine T.is ?_; first | refine T.seq ?_ | refine T.region ?_ | refine T.block ?_ | refine T.cond_t rfl ?_ | refine T.skip ?_ | (refine T.regionFr hF 13 17 (.s 0 (.s 1 (.s 2 (.s 3 (.s 4 (.s 5 (.s 6 (.s 7 (.s 8 (.s 9 (.s 10 (.s 11 (.s 12 (.s 13 (.s 14 (.s 15 (.e 16 (.e 17 .nil)))))))))))))))))) mixed (by kernel_rfl) ?_; clear hF; intro wr hF) | (refine T.regionFr hF 14 17 (.s 0 (.s 1 (.s 2 (.s 3 (.s 4 (.s 5 (.s 6 (.s 7 (.s 8 (.s 9 (.s 10 (.s 11 (.s 12 (.s 13 (.s 14 (.s 15 (.e 16 (.e 17 .nil)))))))))))))))))) mixed (by kernel_rfl) ?_; clear hF; intro wr hF) | (refine T.regionFr hF 15 12 (.s 0 (.s 1 (.s 2 (.s 3 (.s 4 (.s 5 (.s 6 (.s 7 (.s 8 (.s 9 (.e 10 (.s 11 (.e 12 .nil))))))))))))) mixed (by kernel_rfl) ?_; clear hF; intro wr hF)) | (refine G.is ?_; first | refine G.next ?_ | refine G.blockN ?_ | refine G.only ?_ | refine G.treeEnd rfl ?_ | refine G.tree rfl (by first | exact hF | exact hF.weak (by repeat (first | exact List.Sublist.refl _ | apply List.Sublist.cons)) (by repeat (first | exact allR | apply allT)) | exact hF.weak (by repeat (first | exact List.Sublist.refl _ | apply List.Sublist.cons)) (by repeat (first | exact allN | refine allH (by repeat (first | exact memH | apply memT)) ?_))) ?_) | refine TL.nil ?_)
      have hk := (Fr.lk hF (i := R * C) (l := zl) (by repeat (first | exact memH | apply memT))).setAtN (Z' := upZ (i * C + j + 1) Z) (u := u) (q := i * C + j) (by omega) (by rw [upZ_succ, hZp]; exact Fr.li hF (by repeat (first | exact memH | apply memT))) (by omega) (fun p hp => upZ_ne hp)
      exact G.again (j + 1, zl.set (i * C + j) u) (by repeat (first | exact Sub.nil _ | refine Sub.cons rfl ?_ | refine Sub.cons' rfl (int_congr (by omega)) ?_)) ⟨by dsimp only; omega, by rw [List.length_set]; exact hzl, Fr.addLK (hF.weak (.cons _ (.cons _ (.refl _))) allN) hk⟩ (by dsimp only; omega)
    · obtain rfl : j = C := by omega
      repeat' (first | (refine TL.isOp ?_; first | (refine TL.isBin ?_; refine TL.cmpG rfl rfl rfl rfl (fun hc => ?_) (fun hc => ?_) <;> (try (first | (exfalso; omega) | exact absurd rfl hc))) | (apply TL.ev; (case hd => rfl); (case h => (first | exact ev_simple rfl | (apply Ev.isBin; first | exact ev_arN rfl rfl rfl (by omega)) | (apply Ev.isLoad; first | exact ev_loadFr hF rfl (by refine ⟨?_, ?_⟩; (focus (repeat (first | exact InV.head | apply InV.tail))); rfl)) | exact ev_fieldAddr rfl)))) | (refine T.is ?_; first | refine T.seq ?_ | refine T.region ?_ | refine T.cond_f rfl ?_ | refine T.exit ?_) | (refine G.is ?_; first | refine G.next ?_ | refine G.blockN ?_ | refine G.blockE ?_ | refine G.thenE ?_) | refine TL.nil ?_)
      exact G.again (i + 1, zl) (by repeat (first | exact Sub.nil _ | refine Sub.cons rfl ?_ | refine Sub.cons' rfl (int_congr (by omega)) ?_)) ⟨by dsimp only; omega, hzl, by dsimp only; rw [Nat.add_mul, Nat.one_mul]; exact hF⟩ (by dsimp only; omega)
  · obtain rfl : i = R := by omega
    repeat' (first | (refine TL.isOp ?_; first | (refine TL.isBin ?_; refine TL.cmpG rfl rfl rfl rfl (fun hc => ?_) (fun hc => ?_) <;> (try (first | (exfalso; omega) | exact absurd rfl hc))) | (apply TL.ev; (case hd => rfl); (case h => (first | exact ev_simple rfl | (apply Ev.isLoad; first | exact ev_loadFr hF rfl (by refine ⟨?_, ?_⟩; (focus (repeat (first | exact InV.head | apply InV.tail))); rfl) | exact ev_loadAFr hF rfl (by refine ⟨?_, ?_⟩; (focus (repeat (first | exact InV.head | apply InV.tail))); rfl)) | exact ev_fieldAddr rfl))) | (refine TL.storeAFr hF rfl rfl rfl rfl (by refine ⟨?_, ?_⟩; (focus (repeat (first | apply SetV.head | apply SetV.tail))); rfl) rfl ?_; clear hF; intro ws hF)) | (refine T.is ?_; first | refine T.seq ?_ | refine T.region ?_ | refine T.cond_f rfl ?_ | refine T.exit ?_ | refine T.ret ?_) | (refine G.is ?_; first | refine G.next ?_ | refine G.blockE ?_ | refine G.thenE ?_) | refine TL.nil ?_)
    have hb := (hF.lo (b := b) (by repeat (first | exact InV.head | apply InV.tail))).resolve_right id
    exact G.retC2 rfl rfl rfl (held_agg (hF.var (by repeat (first | exact InV.head | apply InV.tail))) rfl) ⟨⟨i, C, some ⟨b, 0, none⟩, i * C, i * C, zl⟩, rfl, lm_of (hF.var (by repeat (first | exact InV.head | apply InV.tail))) hzl hR64 hC64 (Fr.lk hF (by repeat (first | exact memH | apply memT))) (fun a t ha ht => by rw [upZ_end (place_lt ha ht), hZ]; dsimp only; rw [(divmod2 ht).1, (divmod2 ht).2]), hF.ext, .inr ⟨b, rfl, hb⟩⟩
theorem rkron_large (w : World) (x y : MV) (r c p q : Nat) (sx : Sound x r c) (sy : Sound y p q) (hne : 64 < r * p ∨ 64 < c * q) : Cl Tryz.prog 40 #[.agg (mvc x).toArray, .agg (mvc y).toArray] w (RetMF w 5) := by
  have hbo := fun w => rboth_ok w x y sx.snd sy.snd
  have h1 := mul64 sx.r64 sy.r64
  have h2 := mul64 sx.c64 sy.c64
  have e1 := sx.er
  have e2 := sx.ec
  have e3 := sy.er
  have e4 := sy.ec
  clear sx sy
  obtain ⟨xr, xc, A, n, k, l⟩ := x
  obtain ⟨yr, yc, A2, n2, k2, l2⟩ := y
  dsimp only at e1 e2 e3 e4
  subst e1 e2 e3 e4
  refine enter Tryz.func40 rfl rfl rfl ?_
  have hF := Fr.refl w
  repeat' (first | (refine TL.isOp ?_; first | (refine TL.isG ?_; first | refine TL.grun rfl rfl rfl ?_ | refine TL.gskip rfl rfl rfl rfl ?_) | (refine TL.isCall ?_; refine TL.call rfl rfl ?_; first | (refine (hbo _).mono ?_; rintro _ wy ⟨rfl, hE⟩; replace hF := hF.exts hE; clear hE; refine Back.mk ?_)) | (refine TL.isBin ?_; refine TL.cmpG rfl rfl rfl rfl (fun hc => ?_) (fun hc => ?_) <;> (try (first | (exfalso; omega) | exact absurd rfl hc))) | (apply TL.ev; (case hd => rfl); (case h => (first | exact ev_simple rfl | (apply Ev.isBin; first | exact ev_arN rfl rfl rfl (by omega)) | (apply Ev.isLoad; first | exact ev_loadFr hF rfl (by refine ⟨?_, ?_⟩; (focus (repeat (first | exact InV.head | apply InV.tail))); rfl) | exact ev_loadAFr hF rfl (by refine ⟨?_, ?_⟩; (focus (repeat (first | exact InV.head | apply InV.tail))); rfl)) | exact ev_fieldAddr rfl | exact ev_buildX rfl rfl))) | (refine TL.storeAFr hF rfl rfl rfl rfl (by refine ⟨?_, ?_⟩; (focus (repeat (first | apply SetV.head | apply SetV.tail))); rfl) rfl ?_; clear hF; intro ws hF) | (refine TL.boxAFr hF (d := 2) (cs := [.int .i64 (r : Int), .int .i64 (c : Int), .slice A n k]) rfl rfl ?_; clear hF; intro w2 b2 hF) | (refine TL.boxAFr hF (d := 3) (cs := [.int .i64 (p : Int), .int .i64 (q : Int), .slice A2 n2 k2]) rfl rfl ?_; clear hF; intro w3 b3 hF) | (refine TL.allocFr hF (d := 4) rfl rfl ?_; clear hF; intro w4 b4 hF)) | (refine T.is ?_; first | refine T.seq ?_ | refine T.region ?_ | refine T.cond_t rfl ?_ | refine T.cond_f rfl ?_ | refine T.ret ?_ | refine T.skip ?_) | (refine G.is ?_; first | refine G.next ?_ | refine G.thenR ?_) | refine TL.nil ?_)
  all_goals exact G.retC2 rfl rfl rfl (held_agg (hF.var (by repeat (first | exact InV.head | apply InV.tail))) rfl) ⟨rfl, hF.ext⟩
theorem rkron_bad (w : World) (x y : MV) (h : ¬ (Snd x ∧ Snd y)) : Cl Tryz.prog 40 #[.agg (mvc x).toArray, .agg (mvc y).toArray] w (RetMF w 1) := by
  have hbo := fun w => rboth_bad w x y h
  clear h
  obtain ⟨xr, xc, A, n, k, l⟩ := x
  obtain ⟨yr, yc, A2, n2, k2, l2⟩ := y
  refine enter Tryz.func40 rfl rfl rfl ?_
  have hF := Fr.refl w
  repeat' (first | (refine TL.isOp ?_; first | (refine TL.isCall ?_; refine TL.call rfl rfl ?_; first | (refine (hbo _).mono ?_; rintro _ wy ⟨rfl, hE⟩; replace hF := hF.exts hE; clear hE; refine Back.mk ?_)) | (refine TL.isBin ?_; refine TL.cmpG rfl rfl rfl rfl (fun hc => ?_) (fun hc => ?_) <;> (try (first | (exfalso; omega) | exact absurd rfl hc))) | (apply TL.ev; (case hd => rfl); (case h => (first | exact ev_simple rfl | (apply Ev.isLoad; first | exact ev_loadAFr hF rfl (by refine ⟨?_, ?_⟩; (focus (repeat (first | exact InV.head | apply InV.tail))); rfl)) | exact ev_buildX rfl rfl))) | (refine TL.storeAFr hF rfl rfl rfl rfl (by refine ⟨?_, ?_⟩; (focus (repeat (first | apply SetV.head | apply SetV.tail))); rfl) rfl ?_; clear hF; intro ws hF) | (refine TL.boxAFr hF (d := 2) (cs := [.int .i64 xr, .int .i64 xc, .slice A n k]) rfl rfl ?_; clear hF; intro w2 b2 hF) | (refine TL.boxAFr hF (d := 3) (cs := [.int .i64 yr, .int .i64 yc, .slice A2 n2 k2]) rfl rfl ?_; clear hF; intro w3 b3 hF) | (refine TL.allocFr hF (d := 4) rfl rfl ?_; clear hF; intro w4 b4 hF)) | (refine T.is ?_; first | refine T.seq ?_ | refine T.region ?_ | refine T.cond_t rfl ?_ | refine T.ret ?_) | (refine G.is ?_; first | refine G.next ?_ | refine G.thenR ?_) | refine TL.nil ?_)
  exact G.retC2 rfl rfl rfl (held_agg (hF.var (by repeat (first | exact InV.head | apply InV.tail))) rfl) ⟨rfl, hF.ext⟩
theorem rmake_side (w : World) (x y : Int) (A : Option Addr) (n k : Nat) (h : ¬ (isSd x ∧ isSd y)) : Cl Tryz.prog 78 #[.int .i64 x, .int .i64 y, .slice A n k] w (RetMF w 3) := by
  unfold isSd at h
  by_cases hx : x < 0 ∨ 64 < x
  · refine enter Tryz.func78 rfl rfl rfl ?_
    have hF := Fr.refl w
    repeat' (first | (refine TL.isOp ?_; first | (refine TL.isG ?_; first | refine TL.gskip rfl rfl rfl rfl ?_) | (refine TL.isCall ?_; refine TL.call rfl rfl ?_; first | (refine (outside_ok _ x true (decide_eq_true hx)).mono ?_; rintro _ wc ⟨rfl, hE⟩; replace hF := hF.exts hE; clear hE; refine Back.mk ?_)) | (apply TL.ev; (case hd => rfl); (case h => (first | exact ev_simple rfl | exact ev_buildX rfl rfl))) | (refine TL.storeAFr hF rfl rfl rfl rfl (by refine ⟨?_, ?_⟩; (focus (repeat (first | apply SetV.head | apply SetV.tail))); rfl) rfl ?_; clear hF; intro ws hF) | (refine TL.allocFr hF (d := 6) rfl rfl ?_; clear hF; intro w6 b6 hF)) | (refine T.is ?_; first | refine T.seq ?_ | refine T.region ?_ | refine T.cond_t rfl ?_ | refine T.ret ?_) | (refine G.is ?_; first | refine G.next ?_ | refine G.thenR ?_) | refine TL.nil ?_)
    exact G.retC2 rfl rfl rfl (held_agg (hF.var (by repeat (first | exact InV.head | apply InV.tail))) rfl) ⟨rfl, hF.ext⟩
  · refine enter Tryz.func78 rfl rfl rfl ?_
    have hF := Fr.refl w
    repeat' (first | (refine TL.isOp ?_; first | (refine TL.isG ?_; first | refine TL.grun rfl rfl rfl ?_) | (refine TL.isCall ?_; refine TL.call rfl rfl ?_; first | (refine (outside_ok _ x false (decide_eq_false hx)).mono ?_; rintro _ wc ⟨rfl, hE⟩; replace hF := hF.exts hE; clear hE; refine Back.mk ?_) | (refine (outside_ok _ y true (decide_eq_true (by omega))).mono ?_; rintro _ wc ⟨rfl, hE⟩; replace hF := hF.exts hE; clear hE; refine Back.mk ?_)) | (apply TL.ev; (case hd => rfl); (case h => (first | exact ev_simple rfl | exact ev_buildX rfl rfl))) | (refine TL.storeAFr hF rfl rfl rfl rfl (by refine ⟨?_, ?_⟩; (focus (repeat (first | apply SetV.head | apply SetV.tail))); rfl) rfl ?_; clear hF; intro ws hF) | (refine TL.allocFr hF (d := 6) rfl rfl ?_; clear hF; intro w6 b6 hF)) | (refine T.is ?_; first | refine T.seq ?_ | refine T.region ?_ | refine T.cond_t rfl ?_ | refine T.ret ?_) | (refine G.is ?_; first | refine G.next ?_ | refine G.thenR ?_) | refine TL.nil ?_)
    exact G.retC2 rfl rfl rfl (held_agg (hF.var (by repeat (first | exact InV.head | apply InV.tail))) rfl) ⟨rfl, hF.ext⟩
theorem rmake_len (w : World) (r c : Nat) (hr : r ≤ 64) (hcc : c ≤ 64) (A : Option Addr) (n k : Nat) (hne : n ≠ r * c) : Cl Tryz.prog 78 #[.int .i64 (r : Int), .int .i64 (c : Int), .slice A n k] w (RetMF w 2) := by
  have hm := mul64 hr hcc
  refine enter Tryz.func78 rfl rfl rfl ?_
  have hF := Fr.refl w
  repeat' (first | (refine TL.isOp ?_; first | (refine TL.isG ?_; first | refine TL.grun rfl rfl rfl ?_) | (refine TL.isCall ?_; refine TL.call rfl rfl ?_; first | (refine (outside_ok _ (r : Int) false (decide_eq_false (by omega))).mono ?_; rintro _ wc ⟨rfl, hE⟩; replace hF := hF.exts hE; clear hE; refine Back.mk ?_) | (refine (outside_ok _ (c : Int) false (decide_eq_false (by omega))).mono ?_; rintro _ wc ⟨rfl, hE⟩; replace hF := hF.exts hE; clear hE; refine Back.mk ?_)) | (refine TL.isBin ?_; refine TL.cmpG rfl rfl rfl rfl (fun hc => ?_) (fun hc => ?_) <;> (try (first | (exfalso; omega) | exact absurd rfl hc))) | (apply TL.ev; (case hd => rfl); (case h => (first | exact ev_simple rfl | (apply Ev.isBin; first | exact ev_arN rfl rfl rfl (by omega)) | exact ev_len rfl | exact ev_buildX rfl rfl))) | (refine TL.storeAFr hF rfl rfl rfl rfl (by refine ⟨?_, ?_⟩; (focus (repeat (first | apply SetV.head | apply SetV.tail))); rfl) rfl ?_; clear hF; intro ws hF) | (refine TL.allocFr hF (d := 6) rfl rfl ?_; clear hF; intro w6 b6 hF)) | (refine T.is ?_; first | refine T.seq ?_ | refine T.region ?_ | refine T.cond_t rfl ?_ | refine T.cond_f rfl ?_ | refine T.ret ?_ | refine T.skip ?_) | (refine G.is ?_; first | refine G.next ?_ | refine G.thenR ?_) | refine TL.nil ?_)
  exact G.retC2 rfl rfl rfl (held_agg (hF.var (by repeat (first | exact InV.head | apply InV.tail))) rfl) ⟨rfl, hF.ext⟩
theorem rdiag_side (w : World) (x y : Int) (A : Option Addr) (n k : Nat) (h : ¬ (isSd x ∧ isSd y)) : Cl Tryz.prog 81 #[.int .i64 x, .int .i64 y, .slice A n k] w (RetMF w 3) := by
  refine enter Tryz.func81 rfl rfl rfl ?_
  have hF := Fr.refl w
  repeat' (first | (refine TL.isOp ?_; first | (refine TL.isCall ?_; refine TL.call rfl rfl ?_; first | (refine (rzero_no _ x y h).mono ?_; rintro _ wc ⟨rfl, hE⟩; replace hF := hF.exts hE; clear hE; refine Back.mk ?_)) | (refine TL.isBin ?_; refine TL.cmpG rfl rfl rfl rfl (fun hc => ?_) (fun hc => ?_) <;> (try (first | (exfalso; omega) | exact absurd rfl hc))) | (apply TL.ev; (case hd => rfl); (case h => (first | exact ev_simple rfl | (apply Ev.isLoad; first | exact ev_loadAFr hF rfl (by refine ⟨?_, ?_⟩; (focus (repeat (first | exact InV.head | apply InV.tail))); rfl))))) | (refine TL.storeAFr hF rfl rfl rfl rfl (by refine ⟨?_, ?_⟩; (focus (repeat (first | apply SetV.head | apply SetV.tail))); rfl) rfl ?_; clear hF; intro ws hF) | (refine TL.allocFr hF (d := 6) rfl rfl ?_; clear hF; intro w6 b6 hF) | (refine TL.allocFr hF (d := 8) rfl rfl ?_; clear hF; intro w8 b8 hF)) | (refine T.is ?_; first | refine T.seq ?_ | refine T.region ?_ | refine T.cond_t rfl ?_ | refine T.ret ?_) | (refine G.is ?_; first | refine G.next ?_ | refine G.thenR ?_) | refine TL.nil ?_)
  exact G.retC2 rfl rfl rfl (held_agg (hF.var (by repeat (first | exact InV.head | apply InV.tail))) rfl) ⟨rfl, hF.ext⟩
theorem rdiag_len (w : World) (r c : Nat) (hr : r ≤ 64) (hcc : c ≤ 64) (A : Option Addr) (n k : Nat) (hne : ¬ (n ≤ r ∧ n ≤ c)) : Cl Tryz.prog 81 #[.int .i64 (r : Int), .int .i64 (c : Int), .slice A n k] w (RetMF w 2) := by
  refine enter Tryz.func81 rfl rfl rfl ?_
  have hF := Fr.refl w
  repeat' (first | (refine TL.isOp ?_; first | (refine TL.isG ?_; first | refine TL.grun rfl rfl rfl ?_ | refine TL.gskip rfl rfl rfl rfl ?_) | (refine TL.isCall ?_; refine TL.call rfl rfl ?_; first | (refine (rzero_ok _ r c hr hcc).mono ?_; rintro _ wb ⟨b, rfl, hB⟩; replace hF := Fr.blank hF hB; clear hB; refine Back.mk ?_)) | (refine TL.isBin ?_; refine TL.cmpG rfl rfl rfl rfl (fun hc => ?_) (fun hc => ?_) <;> (try (first | (exfalso; omega) | exact absurd rfl hc))) | (apply TL.ev; (case hd => rfl); (case h => (first | exact ev_simple rfl | exact ev_len rfl | exact ev_buildX rfl rfl))) | (refine TL.storeAFr hF rfl rfl rfl rfl (by refine ⟨?_, ?_⟩; (focus (repeat (first | apply SetV.head | apply SetV.tail))); rfl) rfl ?_; clear hF; intro ws hF) | (refine TL.allocFr hF (d := 6) rfl rfl ?_; clear hF; intro w6 b6 hF) | (refine TL.allocFr hF (d := 8) rfl rfl ?_; clear hF; intro w8 b8 hF)) | (refine T.is ?_; first | refine T.seq ?_ | refine T.region ?_ | refine T.cond_t rfl ?_ | refine T.cond_f rfl ?_ | refine T.ret ?_ | refine T.skip ?_) | (refine G.is ?_; first | refine G.next ?_ | refine G.thenR ?_) | refine TL.nil ?_)
  all_goals exact G.retC2 rfl rfl rfl (held_agg (hF.var (by repeat (first | exact InV.head | apply InV.tail))) rfl) ⟨rfl, hF.ext⟩
def dgZ (l : List IV) (c i q : Nat) : Int := if q / c < i ∧ q / c = q % c then ival (l.getD (q / c) default) else 0
theorem dgZ_ne {l : List IV} {c i p : Nat} (h : p ≠ i * c + i) : dgZ l c (i + 1) p = dgZ l c i p := by
  unfold dgZ
  have h0 : p / c * c + p % c = p := Nat.div_add_mod' p c
  have : ¬ (p / c = i ∧ p / c = p % c) := fun ⟨h1, h2⟩ => h (by rw [h1] at h0 h2; rw [← h2] at h0; exact h0.symm)
  by_cases h1 : p / c = p % c
  · have h2 : p / c ≠ i := fun e => this ⟨e, h1⟩
    have : p / c < i + 1 ↔ p / c < i := by omega
    simp [this]
  · simp [h1]
theorem dgZ_at {l : List IV} {c i : Nat} (hi : i < c) : dgZ l c (i + 1) (i * c + i) = ival (l.getD i default) := by
  unfold dgZ
  rw [(divmod2 hi).1, (divmod2 hi).2, if_pos ⟨Nat.lt_succ_self i, rfl⟩]
set_option maxRecDepth 100000 in
theorem rdiag_ok (w : World) (r c n k K : Nat) (hr : r ≤ 64) (hcc : c ≤ 64) (A : Option Addr) (l : List IV) (hs : Sm 2 ivc w.heap w.heap.size A n k l) (hg : ∀ y ∈ l, GI w.heap y ∧ y.m.n ≤ K) (hK : K ≤ 1099511627776) (hnr : n ≤ r) (hnc : n ≤ c) :
    Cl Tryz.prog 81 #[.int .i64 (r : Int), .int .i64 (c : Int), .slice A n k] w (RetME w r c (fun i j => if i < n ∧ i = j then ival (l.getD i default) else 0) K) := by
  have hm := mul64 hr hcc
  have hlen := hs.len
  refine enter Tryz.func81 rfl rfl rfl ?_
  have hF := Fr.refl w
  repeat' (first | (refine TL.isOp ?_; first | (refine TL.isG ?_; first | refine TL.grun rfl rfl rfl ?_) | (refine TL.isCall ?_; refine TL.call rfl rfl ?_; first | (refine (rzero_ok _ r c hr hcc).mono ?_; rintro _ wb ⟨b, rfl, hB⟩; replace hF := Fr.blank hF hB; clear hB; refine Back.mk ?_)) | (refine TL.isBin ?_; refine TL.cmpG rfl rfl rfl rfl (fun hc => ?_) (fun hc => ?_) <;> (try (first | (exfalso; omega) | exact absurd rfl hc))) | (apply TL.ev; (case hd => rfl); (case h => (first | exact ev_simple rfl | exact ev_len rfl))) | (refine TL.storeAFr hF rfl rfl rfl rfl (by refine ⟨?_, ?_⟩; (focus (repeat (first | apply SetV.head | apply SetV.tail))); rfl) rfl ?_; clear hF; intro ws hF) | (refine TL.allocFr hF (d := 6) rfl rfl ?_; clear hF; intro w6 b6 hF) | (refine TL.allocFr hF (d := 8) rfl rfl ?_; clear hF; intro w8 b8 hF)) | (refine T.is ?_; first | refine T.seq ?_ | refine T.region ?_ | refine T.block ?_ | refine T.cond_f rfl ?_ | refine T.skip ?_) | (refine G.is ?_; first | refine G.next ?_) | refine TL.nil ?_)
  refine T.loop (α := Nat × List IV) (fun x => [(0, .int .i64 (r : Int)), (1, .int .i64 (c : Int)), (2, .slice A n k), (6, .pointer (some ⟨b6, 0, none⟩)), (8, .pointer (some ⟨b8, 0, none⟩)), (10, .int .i64 (x.1 : Int))])
    (fun x w' => x.1 ≤ n ∧ x.2.length = r * c ∧ Fr w w' [⟨b, 30, x.2.flatMap ivc⟩, ⟨b8, 27, [.int .i64 (r : Int), .int .i64 (c : Int), .slice (some ⟨b, 0, none⟩) (r * c) (r * c)]⟩, ⟨b6, 27, [.int .i64 0, .int .i64 0, .slice none 0 0]⟩] [dpLK (r * c) x.2 (dgZ l c x.1) K])
    (fun x => n - x.1) (0, List.replicate (r * c) nought) (by repeat (first | exact Sub.nil _ | refine Sub.cons rfl ?_ | refine Sub.cons' rfl (int_congr (by omega)) ?_)) ⟨Nat.zero_le _, List.length_replicate .., Fr.addLK hF.swap ((lk_zeros _ _ _).congrN fun q _ => by simp [dgZ])⟩ ?_
  clear hF
  rintro ⟨i, zl⟩ w2 ⟨hi, hzl, hF⟩
  dsimp only at hi hzl hF ⊢
  rcases Nat.lt_or_ge i n with hin | hin
  · have hy : l[i]? = some (l.getD i default) := by simp [List.getD, show i < l.length by omega]
    obtain ⟨gy, gn⟩ := hg _ (List.mem_of_getElem? hy)
    have hpl := place_lt (i := i) (j := i) (r := r) (c := c) (by omega) (by omega)
    obtain ⟨y, ey⟩ : ∃ y, l.getD i default = y := ⟨_, rfl⟩
    rw [ey] at hy gy gn
    repeat' (first | (refine TL.isOp ?_; first | (refine TL.isCall ?_; refine TL.call rfl rfl ?_; first | (refine (r5least_t _ y (gy.ext hF.ext) (by omega)).mono ?_; rintro _ wl ⟨u, rfl, hLu, hE, hKu⟩; replace hF := Fr.addLI (hF.exts hE) hLu; clear hE hLu; refine Back.mk ?_)) | (refine TL.isBin ?_; refine TL.cmpG rfl rfl rfl rfl (fun hc => ?_) (fun hc => ?_) <;> (try (first | (exfalso; omega) | exact absurd rfl hc))) | (apply TL.ev; (case hd => rfl); (case h => (first | exact ev_simple rfl | (apply Ev.isBin; first | exact ev_arN rfl rfl rfl (by omega)) | exact ev_len rfl))) | (refine TL.storeAtFr hF (f := ivc) (i := i * c + i) u rfl rfl rfl rfl (fun _ => rfl) (by rw [hzl]; exact hpl) (ivc_noV zl) (by repeat (first | apply SetV.head | apply SetV.tail)) ?_; clear hF; intro ws hF)) | (refine TF.is ?_; first | refine TF.nil ?_ | refine TF.e rfl ?_ | (refine TF.pick rfl ?_; first | (apply TFo.ev; (case hd => rfl); (case h => (intro wh hF; first | exact ev_simple rfl | (apply Ev.isBin; first | exact ev_arN rfl rfl rfl (by omega)) | (apply Ev.isLoad; first | exact ev_loadFr hF rfl (by refine ⟨?_, ?_⟩; (focus (repeat (first | exact InV.head | apply InV.tail))); rfl) | exact ev_loadM rfl (hs.ext hF.ext) hy) | exact ev_fieldAddr rfl | exact ev_indexM rfl rfl hin (hs.ext hF.ext).some | exact ev_indexM rfl rfl hpl (.inr rfl)))))) | (refine T.is ?_; first | refine T.seq ?_ | refine T.region ?_ | refine T.block ?_ | refine T.cond_t rfl ?_ | refine T.skip ?_ | (refine T.regionFr hF 9 13 (.s 0 (.s 1 (.s 2 (.s 3 (.s 4 (.s 5 (.s 6 (.s 7 (.s 8 (.s 9 (.s 10 (.e 11 (.s 12 (.e 13 .nil)))))))))))))) mixed (by kernel_rfl) ?_; clear hF; intro wr hF)) | (refine G.is ?_; first | refine G.next ?_ | refine G.blockN ?_ | refine G.only ?_ | refine G.treeEnd rfl ?_ | refine G.tree rfl (by first | exact hF | exact hF.weak (by repeat (first | exact List.Sublist.refl _ | apply List.Sublist.cons)) (by repeat (first | exact allR | apply allT)) | exact hF.weak (by repeat (first | exact List.Sublist.refl _ | apply List.Sublist.cons)) (by repeat (first | exact allN | refine allH (by repeat (first | exact memH | apply memT)) ?_))) ?_) | refine TL.nil ?_)
    have hk := (Fr.lk hF (i := r * c) (l := zl) (by repeat (first | exact memH | apply memT))).setAtN (Z' := dgZ l c (i + 1)) (u := u) (q := i * c + i) (by omega) (by rw [dgZ_at (by omega), ey]; exact Fr.li hF (by repeat (first | exact memH | apply memT))) (by omega) (fun p hp => dgZ_ne hp)
    exact G.again (i + 1, zl.set (i * c + i) u) (by repeat (first | exact Sub.nil _ | refine Sub.cons rfl ?_ | refine Sub.cons' rfl (int_congr (by omega)) ?_)) ⟨by dsimp only; omega, by rw [List.length_set]; exact hzl, Fr.addLK (hF.weak (List.Sublist.refl _) allN) hk⟩ (by dsimp only; omega)
  · obtain rfl : i = n := by omega
    repeat' (first | (refine TL.isOp ?_; first | (refine TL.isBin ?_; refine TL.cmpG rfl rfl rfl rfl (fun hc => ?_) (fun hc => ?_) <;> (try (first | (exfalso; omega) | exact absurd rfl hc))) | (apply TL.ev; (case hd => rfl); (case h => (first | exact ev_simple rfl | (apply Ev.isLoad; first | exact ev_loadAFr hF rfl (by refine ⟨?_, ?_⟩; (focus (repeat (first | exact InV.head | apply InV.tail))); rfl)) | exact ev_len rfl))) | (refine TL.storeAFr hF rfl rfl rfl rfl (by refine ⟨?_, ?_⟩; (focus (repeat (first | apply SetV.head | apply SetV.tail))); rfl) rfl ?_; clear hF; intro ws hF)) | (refine T.is ?_; first | refine T.seq ?_ | refine T.region ?_ | refine T.cond_f rfl ?_ | refine T.exit ?_ | refine T.ret ?_) | (refine G.is ?_; first | refine G.next ?_ | refine G.blockE ?_ | refine G.thenE ?_) | refine TL.nil ?_)
    have hb := (hF.lo (b := b) (by repeat (first | exact InV.head | apply InV.tail))).resolve_right id
    exact G.retC2 rfl rfl rfl (held_agg (hF.var (by repeat (first | exact InV.head | apply InV.tail))) rfl) ⟨⟨r, c, some ⟨b, 0, none⟩, r * c, r * c, zl⟩, rfl, lm_of (hF.var (by repeat (first | exact InV.head | apply InV.tail))) hzl hr hcc (Fr.lk hF (by repeat (first | exact memH | apply memT))) (fun a q ha hq => by unfold dgZ; rw [(divmod2 hq).1, (divmod2 hq).2]), hF.ext, .inr ⟨b, rfl, hb⟩⟩
end Go.Proofs.YtlhmehikajidhaaGreat
namespace Go.Proofs.YtlhmehikajidhaaGreat
open Go Go.Eng Go.Proofs Go.NatM Go.RowKit
set_option maxRecDepth 100000 in
theorem mmake_ok (w : World) (r c k K : Nat) (hr : r ≤ 64) (hcc : c ≤ 64) (A : Option Addr) (l : List IV) (hs : Sm 2 ivc w.heap w.heap.size A (r * c) k l) (hg : ∀ y ∈ l, GI w.heap y ∧ y.m.n ≤ K) (hK : K ≤ 35184372088832) :
    Cl Tryz.prog 97 #[.int .i64 (r : Int), .int .i64 (c : Int), .slice A (r * c) k] w (RetME w r c (fun i j => ival (l.getD (i * c + j) default)) K) := by
  have hm := mul64 hr hcc
  have hs1 := fun (w : World) => (side_ok w.heap (r : Int) true (decide_eq_true (by omega))).cl
  have hs2 := fun (w : World) => (side_ok w.heap (c : Int) true (decide_eq_true (by omega))).cl
  have hx : Sound ⟨r, c, A, r * c, k, l⟩ r c := ⟨rfl, rfl, hr, hcc, rfl⟩
  refine enter Tryz.func97 rfl rfl rfl ?_
  have hF := Fr.refl w
  repeat' (first | (refine TL.isOp ?_; first | (refine TL.isG ?_; first | refine TL.grun rfl rfl rfl ?_) | (refine TL.isCall ?_; refine TL.call rfl rfl ?_; first | (refine (hs1 _).mono ?_; rintro _ wc ⟨rfl, hE⟩; replace hF := hF.exts hE.ext; clear hE; refine Back.mk ?_) | (refine (hs2 _).mono ?_; rintro _ wc ⟨rfl, hE⟩; replace hF := hF.exts hE.ext; clear hE; refine Back.mk ?_) | (refine (each_ok _ A (r * c) k l (hs.ext hF.ext).size (by omega) 91 [] inferInstance _ K (least_each _ l K (fun y hy => ⟨(hg y hy).1.ext hF.ext, (hg y hy).2⟩) hK)).mono ?_; rintro _ wl ⟨Al, kl, ll, rfl, hL, hE, hf⟩; have hLm := LL.lm hx hL; have hMf := LF.mf (r := r) (c := c) (k := kl) (l := ll) hf; replace hMf := hMf.mono hF.ext.size; replace hF := Fr.addLM hF hE hLm (LF.mf hf); clear hE hf hL hLm; refine Back.mk ?_)) | (refine TL.isBin ?_; refine TL.cmpG rfl rfl rfl rfl (fun hc => ?_) (fun hc => ?_) <;> (try (first | (exfalso; omega) | exact absurd rfl hc))) | (apply TL.ev; (case hd => rfl); (case h => (first | exact ev_simple rfl | (apply Ev.isBin; first | exact ev_arN rfl rfl rfl (by omega)) | exact ev_len rfl | exact ev_buildX rfl rfl))) | (refine TL.storeAFr hF rfl rfl rfl rfl (by refine ⟨?_, ?_⟩; (focus (repeat (first | apply SetV.head | apply SetV.tail))); rfl) rfl ?_; clear hF; intro ws hF) | (refine TL.allocFr hF (d := 6) rfl rfl ?_; clear hF; intro w6 b6 hF)) | (refine T.is ?_; first | refine T.seq ?_ | refine T.region ?_ | refine T.cond_f rfl ?_ | refine T.ret ?_ | refine T.skip ?_) | (refine G.is ?_; first | refine G.next ?_) | refine TL.nil ?_)
  exact G.retC2 rfl rfl rfl (held_agg (hF.var (by repeat (first | exact InV.head | apply InV.tail))) rfl) ⟨⟨r, c, Al, r * c, kl, ll⟩, rfl, Fr.lm hF (by repeat (first | exact memH | apply memT)), hF.ext, hMf⟩
theorem mmake_side (w : World) (x y : Int) (A : Option Addr) (n k : Nat) (h : ¬ (isSd x ∧ isSd y)) : Cl Tryz.prog 97 #[.int .i64 x, .int .i64 y, .slice A n k] w (RetMF w 3) := by
  unfold isSd at h
  by_cases hx : 0 ≤ x ∧ x ≤ 64
  · have hs1 := fun (w : World) => (side_ok w.heap x true (decide_eq_true hx)).cl
    have hs2 := fun (w : World) => (side_ok w.heap y false (decide_eq_false (fun hy => h ⟨hx, hy⟩))).cl
    clear h
    refine enter Tryz.func97 rfl rfl rfl ?_
    have hF := Fr.refl w
    repeat' (first | (refine TL.isOp ?_; first | (refine TL.isG ?_; first | refine TL.grun rfl rfl rfl ?_) | (refine TL.isCall ?_; refine TL.call rfl rfl ?_; first | (refine (hs1 _).mono ?_; rintro _ wc ⟨rfl, hE⟩; replace hF := hF.exts hE.ext; clear hE; refine Back.mk ?_) | (refine (hs2 _).mono ?_; rintro _ wc ⟨rfl, hE⟩; replace hF := hF.exts hE.ext; clear hE; refine Back.mk ?_)) | (apply TL.ev; (case hd => rfl); (case h => (first | exact ev_simple rfl | exact ev_buildX rfl rfl))) | (refine TL.storeAFr hF rfl rfl rfl rfl (by refine ⟨?_, ?_⟩; (focus (repeat (first | apply SetV.head | apply SetV.tail))); rfl) rfl ?_; clear hF; intro ws hF) | (refine TL.allocFr hF (d := 6) rfl rfl ?_; clear hF; intro w6 b6 hF)) | (refine T.is ?_; first | refine T.seq ?_ | refine T.region ?_ | refine T.cond_t rfl ?_ | refine T.ret ?_) | (refine G.is ?_; first | refine G.next ?_ | refine G.thenR ?_) | refine TL.nil ?_)
    exact G.retC2 rfl rfl rfl (held_agg (hF.var (by repeat (first | exact InV.head | apply InV.tail))) rfl) ⟨rfl, hF.ext⟩
  · have hs1 := fun (w : World) => (side_ok w.heap x false (decide_eq_false hx)).cl
    clear h
    refine enter Tryz.func97 rfl rfl rfl ?_
    have hF := Fr.refl w
    repeat' (first | (refine TL.isOp ?_; first | (refine TL.isG ?_; first | refine TL.gskip rfl rfl rfl rfl ?_) | (refine TL.isCall ?_; refine TL.call rfl rfl ?_; first | (refine (hs1 _).mono ?_; rintro _ wc ⟨rfl, hE⟩; replace hF := hF.exts hE.ext; clear hE; refine Back.mk ?_)) | (apply TL.ev; (case hd => rfl); (case h => (first | exact ev_simple rfl | exact ev_buildX rfl rfl))) | (refine TL.storeAFr hF rfl rfl rfl rfl (by refine ⟨?_, ?_⟩; (focus (repeat (first | apply SetV.head | apply SetV.tail))); rfl) rfl ?_; clear hF; intro ws hF) | (refine TL.allocFr hF (d := 6) rfl rfl ?_; clear hF; intro w6 b6 hF)) | (refine T.is ?_; first | refine T.seq ?_ | refine T.region ?_ | refine T.cond_t rfl ?_ | refine T.ret ?_) | (refine G.is ?_; first | refine G.next ?_ | refine G.thenR ?_) | refine TL.nil ?_)
    exact G.retC2 rfl rfl rfl (held_agg (hF.var (by repeat (first | exact InV.head | apply InV.tail))) rfl) ⟨rfl, hF.ext⟩
theorem mmake_len (w : World) (r c : Nat) (hr : r ≤ 64) (hcc : c ≤ 64) (A : Option Addr) (n k : Nat) (hne : n ≠ r * c) : Cl Tryz.prog 97 #[.int .i64 (r : Int), .int .i64 (c : Int), .slice A n k] w (RetMF w 2) := by
  have hm := mul64 hr hcc
  have hs1 := fun (w : World) => (side_ok w.heap (r : Int) true (decide_eq_true (by omega))).cl
  have hs2 := fun (w : World) => (side_ok w.heap (c : Int) true (decide_eq_true (by omega))).cl
  refine enter Tryz.func97 rfl rfl rfl ?_
  have hF := Fr.refl w
  repeat' (first | (refine TL.isOp ?_; first | (refine TL.isG ?_; first | refine TL.grun rfl rfl rfl ?_) | (refine TL.isCall ?_; refine TL.call rfl rfl ?_; first | (refine (hs1 _).mono ?_; rintro _ wc ⟨rfl, hE⟩; replace hF := hF.exts hE.ext; clear hE; refine Back.mk ?_) | (refine (hs2 _).mono ?_; rintro _ wc ⟨rfl, hE⟩; replace hF := hF.exts hE.ext; clear hE; refine Back.mk ?_)) | (refine TL.isBin ?_; refine TL.cmpG rfl rfl rfl rfl (fun hc => ?_) (fun hc => ?_) <;> (try (first | (exfalso; omega) | exact absurd rfl hc))) | (apply TL.ev; (case hd => rfl); (case h => (first | exact ev_simple rfl | (apply Ev.isBin; first | exact ev_arN rfl rfl rfl (by omega)) | exact ev_len rfl | exact ev_buildX rfl rfl))) | (refine TL.storeAFr hF rfl rfl rfl rfl (by refine ⟨?_, ?_⟩; (focus (repeat (first | apply SetV.head | apply SetV.tail))); rfl) rfl ?_; clear hF; intro ws hF) | (refine TL.allocFr hF (d := 6) rfl rfl ?_; clear hF; intro w6 b6 hF)) | (refine T.is ?_; first | refine T.seq ?_ | refine T.region ?_ | refine T.cond_t rfl ?_ | refine T.cond_f rfl ?_ | refine T.ret ?_ | refine T.skip ?_) | (refine G.is ?_; first | refine G.next ?_ | refine G.thenR ?_) | refine TL.nil ?_)
  exact G.retC2 rfl rfl rfl (held_agg (hF.var (by repeat (first | exact InV.head | apply InV.tail))) rfl) ⟨rfl, hF.ext⟩
theorem mdiag_side (w : World) (x y : Int) (A : Option Addr) (n k : Nat) (h : ¬ (isSd x ∧ isSd y)) : Cl Tryz.prog 99 #[.int .i64 x, .int .i64 y, .slice A n k] w (RetMF w 3) := by
  unfold isSd at h
  by_cases hx : 0 ≤ x ∧ x ≤ 64
  · have hs1 := fun (w : World) => (side_ok w.heap x true (decide_eq_true hx)).cl
    have hs2 := fun (w : World) => (side_ok w.heap y false (decide_eq_false (fun hy => h ⟨hx, hy⟩))).cl
    clear h
    refine enter Tryz.func99 rfl rfl rfl ?_
    have hF := Fr.refl w
    repeat' (first | (refine TL.isOp ?_; first | (refine TL.isG ?_; first | refine TL.grun rfl rfl rfl ?_) | (refine TL.isCall ?_; refine TL.call rfl rfl ?_; first | (refine (hs1 _).mono ?_; rintro _ wc ⟨rfl, hE⟩; replace hF := hF.exts hE.ext; clear hE; refine Back.mk ?_) | (refine (hs2 _).mono ?_; rintro _ wc ⟨rfl, hE⟩; replace hF := hF.exts hE.ext; clear hE; refine Back.mk ?_)) | (apply TL.ev; (case hd => rfl); (case h => (first | exact ev_simple rfl | exact ev_buildX rfl rfl))) | (refine TL.storeAFr hF rfl rfl rfl rfl (by refine ⟨?_, ?_⟩; (focus (repeat (first | apply SetV.head | apply SetV.tail))); rfl) rfl ?_; clear hF; intro ws hF) | (refine TL.boxFr hF (d := 5) (v := .slice A n k) rfl rfl ?_; clear hF; intro w5 b5 hF) | (refine TL.allocFr hF (d := 6) rfl rfl ?_; clear hF; intro w6 b6 hF)) | (refine T.is ?_; first | refine T.seq ?_ | refine T.region ?_ | refine T.cond_t rfl ?_ | refine T.ret ?_) | (refine G.is ?_; first | refine G.next ?_ | refine G.thenR ?_) | refine TL.nil ?_)
    exact G.retC2 rfl rfl rfl (held_agg (hF.var (by repeat (first | exact InV.head | apply InV.tail))) rfl) ⟨rfl, hF.ext⟩
  · have hs1 := fun (w : World) => (side_ok w.heap x false (decide_eq_false hx)).cl
    clear h
    refine enter Tryz.func99 rfl rfl rfl ?_
    have hF := Fr.refl w
    repeat' (first | (refine TL.isOp ?_; first | (refine TL.isG ?_; first | refine TL.gskip rfl rfl rfl rfl ?_) | (refine TL.isCall ?_; refine TL.call rfl rfl ?_; first | (refine (hs1 _).mono ?_; rintro _ wc ⟨rfl, hE⟩; replace hF := hF.exts hE.ext; clear hE; refine Back.mk ?_)) | (apply TL.ev; (case hd => rfl); (case h => (first | exact ev_simple rfl | exact ev_buildX rfl rfl))) | (refine TL.storeAFr hF rfl rfl rfl rfl (by refine ⟨?_, ?_⟩; (focus (repeat (first | apply SetV.head | apply SetV.tail))); rfl) rfl ?_; clear hF; intro ws hF) | (refine TL.boxFr hF (d := 5) (v := .slice A n k) rfl rfl ?_; clear hF; intro w5 b5 hF) | (refine TL.allocFr hF (d := 6) rfl rfl ?_; clear hF; intro w6 b6 hF)) | (refine T.is ?_; first | refine T.seq ?_ | refine T.region ?_ | refine T.cond_t rfl ?_ | refine T.ret ?_) | (refine G.is ?_; first | refine G.next ?_ | refine G.thenR ?_) | refine TL.nil ?_)
    exact G.retC2 rfl rfl rfl (held_agg (hF.var (by repeat (first | exact InV.head | apply InV.tail))) rfl) ⟨rfl, hF.ext⟩
theorem mdiag_len (w : World) (r c : Nat) (hr : r ≤ 64) (hcc : c ≤ 64) (A : Option Addr) (n k : Nat) (hne : ¬ (n ≤ r ∧ n ≤ c)) : Cl Tryz.prog 99 #[.int .i64 (r : Int), .int .i64 (c : Int), .slice A n k] w (RetMF w 2) := by
  have hs1 := fun (w : World) => (side_ok w.heap (r : Int) true (decide_eq_true (by omega))).cl
  have hs2 := fun (w : World) => (side_ok w.heap (c : Int) true (decide_eq_true (by omega))).cl
  refine enter Tryz.func99 rfl rfl rfl ?_
  have hF := Fr.refl w
  repeat' (first | (refine TL.isOp ?_; first | (refine TL.isG ?_; first | refine TL.grun rfl rfl rfl ?_) | (refine TL.isCall ?_; refine TL.call rfl rfl ?_; first | (refine (hs1 _).mono ?_; rintro _ wc ⟨rfl, hE⟩; replace hF := hF.exts hE.ext; clear hE; refine Back.mk ?_) | (refine (hs2 _).mono ?_; rintro _ wc ⟨rfl, hE⟩; replace hF := hF.exts hE.ext; clear hE; refine Back.mk ?_)) | (refine TL.isBin ?_; refine TL.cmpG rfl rfl rfl rfl (fun hc => ?_) (fun hc => ?_) <;> (try (first | (exfalso; omega) | exact absurd rfl hc))) | (apply TL.ev; (case hd => rfl); (case h => (first | exact ev_simple rfl | (apply Ev.isLoad; first | exact ev_loadFr hF rfl (by refine ⟨?_, ?_⟩; (focus (repeat (first | exact InV.head | apply InV.tail))); rfl)) | exact ev_len rfl | exact ev_buildX rfl rfl | exact ev_min2 rfl rfl))) | (refine TL.storeAFr hF rfl rfl rfl rfl (by refine ⟨?_, ?_⟩; (focus (repeat (first | apply SetV.head | apply SetV.tail))); rfl) rfl ?_; clear hF; intro ws hF) | (refine TL.boxFr hF (d := 5) (v := .slice A n k) rfl rfl ?_; clear hF; intro w5 b5 hF) | (refine TL.allocFr hF (d := 6) rfl rfl ?_; clear hF; intro w6 b6 hF)) | (refine T.is ?_; first | refine T.seq ?_ | refine T.region ?_ | refine T.cond_t rfl ?_ | refine T.cond_f rfl ?_ | refine T.ret ?_ | refine T.skip ?_) | (refine G.is ?_; first | refine G.next ?_ | refine G.thenR ?_) | refine TL.nil ?_)
  exact G.retC2 rfl rfl rfl (held_agg (hF.var (by repeat (first | exact InV.head | apply InV.tail))) rfl) ⟨rfl, hF.ext⟩
theorem diag1_ok (w : World) (p : Nat) (A : Option Addr) (n k K : Nat) (l : List IV) (hp : Vr w.heap p 25 [.slice A n k]) (hs : Sm 2 ivc w.heap w.heap.size A n k l) (hg : ∀ y ∈ l, GI w.heap y ∧ y.m.n ≤ K) (hK : K ≤ 35184372088832) (hn : n ≤ 64) (i j : Nat) (hi : i ≤ 64) (hj : j ≤ 64) :
    Cl Tryz.prog 119 ([Value.int .i64 (i : Int), Value.int .i64 (j : Int)] ++ [Value.pointer (some ⟨p, 0, none⟩)]).toArray w (RetZ w ((fun i j => if i < n ∧ i = j then ival (l.getD i default) else 0) i j) K) := by
  have hlen := hs.len
  dsimp only
  by_cases h : i < n ∧ i = j
  · rw [if_pos h]
    obtain ⟨hin, rfl⟩ := h
    have hy : l[i]? = some (l.getD i default) := by simp [List.getD, show i < l.length by omega]
    obtain ⟨g1, n1⟩ := hg _ (List.mem_of_getElem? hy)
    generalize l.getD i default = y at *
    have hz := fun w1 (hE : Ext w w1) => zleast_ok w1 y (g1.ext hE) (by omega)
    refine enter Tryz.func119 rfl rfl rfl ?_
    have hF := Fr.refl w
    repeat' (first | (refine TL.isOp ?_; first | (refine TL.isG ?_; first | refine TL.grun rfl rfl rfl ?_) | (refine TL.isCall ?_; refine TL.call rfl rfl ?_; first | (refine (hz _ hF.ext).mono ?_; rintro _ w1 ⟨z, rfl, hL, hE, hK⟩; replace hF := Fr.addLI (hF.exts hE) hL; clear hE hL; refine Back.mk ?_)) | (refine TL.isBin ?_; refine TL.cmpG rfl rfl rfl rfl (fun hc => ?_) (fun hc => ?_) <;> (try (first | (exfalso; omega) | exact absurd rfl hc))) | (apply TL.ev; (case hd => rfl); (case h => (first | exact ev_simple rfl | (apply Ev.isLoad; first | exact ev_loadV rfl (hp.ext hF.ext) rfl | exact ev_loadM rfl (hs.ext hF.ext) hy) | exact ev_len rfl | exact ev_indexM rfl rfl hin (hs.ext hF.ext).some))) | (refine TL.storeAFr hF rfl rfl rfl rfl (by refine ⟨?_, ?_⟩; (focus (repeat (first | apply SetV.head | apply SetV.tail))); rfl) rfl ?_; clear hF; intro ws hF) | (refine TL.allocFr hF (d := 5) rfl rfl ?_; clear hF; intro w5 b5 hF)) | (refine T.is ?_; first | refine T.seq ?_ | refine T.region ?_ | refine T.cond_t rfl ?_ | refine T.ret ?_) | (refine G.is ?_; first | refine G.next ?_ | refine G.thenR ?_) | refine TL.nil ?_)
    exact G.retC1 rfl rfl (held_agg (hF.var (by repeat (first | exact InV.head | apply InV.tail))) rfl) ⟨z, rfl, Fr.li hF (by repeat (first | exact memH | apply memT)), hF.ext, by omega⟩
  · rw [if_neg h]
    refine enter Tryz.func119 rfl rfl rfl ?_
    have hF := Fr.refl w
    by_cases hij : i = j
    · have hin : ¬ i < n := fun h' => h ⟨h', hij⟩
      clear h
      repeat' (first | (refine TL.isOp ?_; first | (refine TL.isG ?_; first | refine TL.grun rfl rfl rfl ?_) | (refine TL.isBin ?_; refine TL.cmpG rfl rfl rfl rfl (fun hc => ?_) (fun hc => ?_) <;> (try (first | (exfalso; omega) | exact absurd rfl hc))) | (apply TL.ev; (case hd => rfl); (case h => (first | exact ev_simple rfl | (apply Ev.isLoad; first | exact ev_loadV rfl (hp.ext hF.ext) rfl) | exact ev_len rfl | exact ev_buildX rfl rfl))) | (refine TL.storeAFr hF rfl rfl rfl rfl (by refine ⟨?_, ?_⟩; (focus (repeat (first | apply SetV.head | apply SetV.tail))); rfl) rfl ?_; clear hF; intro ws hF) | (refine TL.allocFr hF (d := 5) rfl rfl ?_; clear hF; intro w5 b5 hF)) | (refine T.is ?_; first | refine T.seq ?_ | refine T.region ?_ | refine T.cond_f rfl ?_ | refine T.ret ?_ | refine T.skip ?_) | (refine G.is ?_; first | refine G.next ?_) | refine TL.nil ?_)
      exact G.retC1 rfl rfl (held_agg (hF.var (by repeat (first | exact InV.head | apply InV.tail))) rfl) ⟨⟨false, ⟨none, 0, 0, []⟩⟩, rfl, LI.zero _, hF.ext, Nat.zero_le _⟩
    · clear h
      repeat' (first | (refine TL.isOp ?_; first | (refine TL.isG ?_; first | refine TL.gskip rfl rfl rfl rfl ?_) | (refine TL.isBin ?_; refine TL.cmpG rfl rfl rfl rfl (fun hc => ?_) (fun hc => ?_) <;> (try (first | (exfalso; omega) | exact absurd rfl hc))) | (apply TL.ev; (case hd => rfl); (case h => (first | exact ev_simple rfl | exact ev_buildX rfl rfl))) | (refine TL.storeAFr hF rfl rfl rfl rfl (by refine ⟨?_, ?_⟩; (focus (repeat (first | apply SetV.head | apply SetV.tail))); rfl) rfl ?_; clear hF; intro ws hF) | (refine TL.allocFr hF (d := 5) rfl rfl ?_; clear hF; intro w5 b5 hF)) | (refine T.is ?_; first | refine T.seq ?_ | refine T.region ?_ | refine T.cond_f rfl ?_ | refine T.ret ?_ | refine T.skip ?_) | (refine G.is ?_; first | refine G.next ?_) | refine TL.nil ?_)
      exact G.retC1 rfl rfl (held_agg (hF.var (by repeat (first | exact InV.head | apply InV.tail))) rfl) ⟨⟨false, ⟨none, 0, 0, []⟩⟩, rfl, LI.zero _, hF.ext, Nat.zero_le _⟩
set_option maxRecDepth 100000 in
theorem mdiag_ok (w : World) (r c n k K : Nat) (hr : r ≤ 64) (hcc : c ≤ 64) (A : Option Addr) (l : List IV) (hs : Sm 2 ivc w.heap w.heap.size A n k l) (hg : ∀ y ∈ l, GI w.heap y ∧ y.m.n ≤ K) (hK : K ≤ 35184372088832) (hnr : n ≤ r) (hnc : n ≤ c) :
    Cl Tryz.prog 99 #[.int .i64 (r : Int), .int .i64 (c : Int), .slice A n k] w (RetME w r c (fun i j => if i < n ∧ i = j then ival (l.getD i default) else 0) K) := by
  have hs1 := fun (w : World) => (side_ok w.heap (r : Int) true (decide_eq_true (by omega))).cl
  have hs2 := fun (w : World) => (side_ok w.heap (c : Int) true (decide_eq_true (by omega))).cl
  refine enter Tryz.func99 rfl rfl rfl ?_
  have hF := Fr.refl w
  repeat' (first | (refine TL.isOp ?_; first | (refine TL.isG ?_; first | refine TL.grun rfl rfl rfl ?_) | (refine TL.isCall ?_; refine TL.call rfl rfl ?_; first | (refine (hs1 _).mono ?_; rintro _ wc ⟨rfl, hE⟩; replace hF := hF.exts hE.ext; clear hE; refine Back.mk ?_) | (refine (hs2 _).mono ?_; rintro _ wc ⟨rfl, hE⟩; replace hF := hF.exts hE.ext; clear hE; refine Back.mk ?_) | (refine (build_ok _ r c hr hcc 119 [.pointer (some ⟨b5, 0, none⟩)] inferInstance (fun i j => if i < n ∧ i = j then ival (l.getD i default) else 0) K (fun i j w1 hi hj hE1 => diag1_ok w1 b5 A n k K l ((hF.var (by repeat (first | exact InV.head | apply InV.tail))).ext hE1) ((hs.ext (hF.exts hE1).ext)).size (fun y hy => ⟨(hg y hy).1.ext (hF.exts hE1).ext, (hg y hy).2⟩) hK (by omega) i j (by omega) (by omega))).mono ?_; rintro _ wz ⟨zz, rfl, hLz, hE, hf⟩; obtain ⟨Az, kz, lz, rfl⟩ := lm_mk hLz; rw [mvc_mk _ _ Az]; have hfz := hf.mono hF.ext.size; replace hF := Fr.addLM hF hE hLz hf; clear hE hf hLz; refine Back.mk ?_)) | (refine TL.isBin ?_; refine TL.cmpG rfl rfl rfl rfl (fun hc => ?_) (fun hc => ?_) <;> (try (first | (exfalso; omega) | exact absurd rfl hc))) | (apply TL.ev; (case hd => rfl); (case h => (first | exact ev_simple rfl | (apply Ev.isLoad; first | exact ev_loadFr hF rfl (by refine ⟨?_, ?_⟩; (focus (repeat (first | exact InV.head | apply InV.tail))); rfl)) | exact ev_len rfl | exact ev_makeFunc rfl | exact ev_min2 rfl rfl))) | (refine TL.storeAFr hF rfl rfl rfl rfl (by refine ⟨?_, ?_⟩; (focus (repeat (first | apply SetV.head | apply SetV.tail))); rfl) rfl ?_; clear hF; intro ws hF) | (refine TL.boxFr hF (d := 5) (v := .slice A n k) rfl rfl ?_; clear hF; intro w5 b5 hF) | (refine TL.allocFr hF (d := 6) rfl rfl ?_; clear hF; intro w6 b6 hF)) | (refine T.is ?_; first | refine T.seq ?_ | refine T.region ?_ | refine T.cond_f rfl ?_ | refine T.ret ?_ | refine T.skip ?_) | (refine G.is ?_; first | refine G.next ?_) | refine TL.nil ?_)
  exact G.retC2 rfl rfl rfl (held_agg (hF.var (by repeat (first | exact InV.head | apply InV.tail))) rfl) ⟨⟨r, c, Az, r * c, kz, lz⟩, rfl, Fr.lm hF (by repeat (first | exact memH | apply memT)), hF.ext, hfz⟩
theorem mzero_no (w : World) (x y : Int) (h : ¬ (isSd x ∧ isSd y)) : Cl Tryz.prog 98 #[.int .i64 x, .int .i64 y] w (RetMF w 3) := by
  have hd := fun w => mdiag_side w x y none 0 0 h
  refine enter Tryz.func98 rfl rfl rfl ?_
  have hF := Fr.refl w
  repeat' (first | (refine TL.isOp ?_; first | (refine TL.isCall ?_; refine TL.call rfl rfl ?_; first | (refine (hd _).mono ?_; rintro _ wc ⟨rfl, hE⟩; replace hF := hF.exts hE; clear hE; refine Back.mk ?_)) | (apply TL.ev; (case hd => rfl); (case h => (first | exact ev_simple rfl))) | (refine TL.storeAFr hF rfl rfl rfl rfl (by refine ⟨?_, ?_⟩; (focus (repeat (first | apply SetV.head | apply SetV.tail))); rfl) rfl ?_; clear hF; intro ws hF) | (refine TL.allocFr hF (d := 4) rfl rfl ?_; clear hF; intro w4 b4 hF)) | (refine T.is ?_; first | refine T.seq ?_ | refine T.region ?_ | refine T.ret ?_) | (refine G.is ?_; first | refine G.next ?_) | refine TL.nil ?_)
  exact G.retC2 rfl rfl rfl (held_agg (hF.var (by repeat (first | exact InV.head | apply InV.tail))) rfl) ⟨rfl, hF.ext⟩
theorem mzero_ok (w : World) (r c : Nat) (hr : r ≤ 64) (hcc : c ≤ 64) : Cl Tryz.prog 98 #[.int .i64 (r : Int), .int .i64 (c : Int)] w (RetME w r c (fun _ _ => 0) 0) := by
  have hd := fun w => mdiag_ok w r c 0 0 0 hr hcc none [] ⟨rfl, Nat.le_refl _, by omega, fun x hx => (by cases hx), .inl rfl⟩ (fun y hy => (by cases hy)) (by omega) (Nat.zero_le _) (Nat.zero_le _)
  refine enter Tryz.func98 rfl rfl rfl ?_
  have hF := Fr.refl w
  repeat' (first | (refine TL.isOp ?_; first | (refine TL.isCall ?_; refine TL.call rfl rfl ?_; first | (refine (hd _).mono ?_; rintro _ wz ⟨zz, rfl, hLz, hE, hf⟩; obtain ⟨Az, kz, lz, rfl⟩ := lm_mk hLz; rw [mvc_mk _ _ Az]; have hfz := hf.mono hF.ext.size; replace hF := Fr.addLM hF hE hLz hf; clear hE hf hLz; refine Back.mk ?_)) | (apply TL.ev; (case hd => rfl); (case h => (first | exact ev_simple rfl))) | (refine TL.storeAFr hF rfl rfl rfl rfl (by refine ⟨?_, ?_⟩; (focus (repeat (first | apply SetV.head | apply SetV.tail))); rfl) rfl ?_; clear hF; intro ws hF) | (refine TL.allocFr hF (d := 4) rfl rfl ?_; clear hF; intro w4 b4 hF)) | (refine T.is ?_; first | refine T.seq ?_ | refine T.region ?_ | refine T.ret ?_) | (refine G.is ?_; first | refine G.next ?_) | refine TL.nil ?_)
  exact G.retC2 rfl rfl rfl (held_agg (hF.var (by repeat (first | exact InV.head | apply InV.tail))) rfl) ⟨⟨r, c, Az, r * c, kz, lz⟩, rfl, (Fr.lm hF (by repeat (first | exact memH | apply memT))).congr fun i j hi hj => (by rw [if_neg (fun h => Nat.not_lt_zero _ h.1)]), hF.ext, hfz⟩
end Go.Proofs.YtlhmehikajidhaaGreat
