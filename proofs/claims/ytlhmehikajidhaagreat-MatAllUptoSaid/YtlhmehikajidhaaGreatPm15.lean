/- MatAll: a call's law, the script's law. Opening a script of layer 9's calls. -/
import Derived.Test.YtlhmehikajidhaaGreatPm14
import Derived.Test.YtlhmehikajidhaaGreatPm6
set_option maxHeartbeats 8000000
set_option linter.unusedVariables false
set_option linter.unusedSimpArgs false
namespace Go.Proofs.YtlhmehikajidhaaGreat
open Go Go.Eng Go.Proofs Go.NatM Go.RowKit
instance : Inhabited OV := ⟨⟨0, default, default, default, default, 0, 0, none, 0, 0, [], none, 0, 0, [], none, 0, 0, []⟩⟩
def Both (w : World) (o : OV) : Prop := ∃ s : AS, s.n ≤ 4096 ∧ s.rn ≤ 4096 ∧ (0 < s.rn → s.rc ≤ 4096) ∧ ∀ w1, Ext w w1 → Cl Tryz.prog 16 #[.agg (ovc o).toArray] w1 (RetA w1 s 1099511627776) ∧ Cl Tryz.prog 15 #[.agg (ovc o).toArray] w1 (RetA w1 s 1099511627776)
section
variable {w : World} {o : OV}
theorem AOK.monoA {H : Array Obj} {a : AV} {s : AS} {K K' : Nat} (h : AOK H a s K) (hK : K ≤ K') : AOK H a s K' :=
  ⟨h.x.monoA hK, ⟨h.y.1, Nat.le_trans h.y.2 hK⟩, ⟨h.l.1.monoA hK, h.l.2⟩, ⟨h.r.1, h.r.2.1, fun q hq => ⟨(h.r.2.2 q hq).1, (h.r.2.2 q hq).2.monoA hK⟩⟩, h.n, h.ok, h.e⟩
theorem RetA.monoA {w w' : World} {s : AS} {K K' : Nat} {e : Ending} (h : RetA w s K e w') (hK : K ≤ K') : RetA w s K' e w' := by
  obtain ⟨a, h1, h2, h3, h4⟩ := h
  exact ⟨a, h1, h2.monoA hK, h3, h4⟩
theorem both1 (hO : OG w.heap o) (ho : o.kind = 1) : Both w o := by
  obtain ⟨err, h⟩ := b1 hO
  exact ⟨sE err, by simp [sX, sY, sL, sB, sE], by simp [sX, sY, sL, sB, sE], fun _ => by simp [sX, sY, sL, sB, sE], fun w1 hE => ⟨plays1 w1 o ho err _ fun w2 hE2 => (h w2 (Ext.trans hE hE2)).1, wants1 w1 o ho err _ fun w2 hE2 => (h w2 (Ext.trans hE hE2)).2⟩⟩
theorem both2 (hO : OG w.heap o) (ho : o.kind = 2) : Both w o := by
  obtain ⟨r, c, F, err, h⟩ := b2 hO
  exact ⟨sX r c F err, by simp [sX, sY, sL, sB, sE], by simp [sX, sY, sL, sB, sE], fun _ => by simp [sX, sY, sL, sB, sE], fun w1 hE => ⟨plays2 w1 o ho r c F err _ fun w2 hE2 => (h w2 (Ext.trans hE hE2)).1, wants2 w1 o ho r c F err _ fun w2 hE2 => (h w2 (Ext.trans hE hE2)).2⟩⟩
theorem both3 (hO : OG w.heap o) (ho : o.kind = 3) : Both w o := by
  obtain ⟨r, c, F, err, h⟩ := b3 hO
  exact ⟨sX r c F err, by simp [sX, sY, sL, sB, sE], by simp [sX, sY, sL, sB, sE], fun _ => by simp [sX, sY, sL, sB, sE], fun w1 hE => ⟨plays3 w1 o ho r c F err _ fun w2 hE2 => (h w2 (Ext.trans hE hE2)).1, wants3 w1 o ho r c F err _ fun w2 hE2 => (h w2 (Ext.trans hE hE2)).2⟩⟩
theorem both4 (hO : OG w.heap o) (ho : o.kind = 4) : Both w o := by
  obtain ⟨r, c, F, err, h⟩ := b4 (w := w) (o := o)
  exact ⟨sX r c F err, by simp [sX, sY, sL, sB, sE], by simp [sX, sY, sL, sB, sE], fun _ => by simp [sX, sY, sL, sB, sE], fun w1 hE => ⟨plays4 w1 o ho r c F err _ fun w2 hE2 => (h w2 (Ext.trans hE hE2)).1, wants4 w1 o ho r c F err _ fun w2 hE2 => (h w2 (Ext.trans hE hE2)).2⟩⟩
theorem both5 (hO : OG w.heap o) (ho : o.kind = 5) : Both w o := by
  obtain ⟨r, c, F, err, h⟩ := b5 (w := w) (o := o)
  exact ⟨sX r c F err, by simp [sX, sY, sL, sB, sE], by simp [sX, sY, sL, sB, sE], fun _ => by simp [sX, sY, sL, sB, sE], fun w1 hE => ⟨plays5 w1 o ho r c F err _ fun w2 hE2 => (h w2 (Ext.trans hE hE2)).1, wants5 w1 o ho r c F err _ fun w2 hE2 => (h w2 (Ext.trans hE hE2)).2⟩⟩
theorem both6 (hO : OG w.heap o) (ho : o.kind = 6) : Both w o := by
  obtain ⟨r, c, F, err, h⟩ := b6 hO
  exact ⟨sX r c F err, by simp [sX, sY, sL, sB, sE], by simp [sX, sY, sL, sB, sE], fun _ => by simp [sX, sY, sL, sB, sE], fun w1 hE => ⟨plays6 w1 o ho r c F err _ fun w2 hE2 => (h w2 (Ext.trans hE hE2)).1, wants6 w1 o ho r c F err _ fun w2 hE2 => (h w2 (Ext.trans hE hE2)).2⟩⟩
theorem both7 (hO : OG w.heap o) (ho : o.kind = 7) : Both w o := by
  obtain ⟨b, err, h⟩ := b7 hO
  exact ⟨sB b err, by simp [sX, sY, sL, sB, sE], by simp [sX, sY, sL, sB, sE], fun _ => by simp [sX, sY, sL, sB, sE], fun w1 hE => ⟨plays7 w1 o ho b err _ fun w2 hE2 => (h w2 (Ext.trans hE hE2)).1, wants7 w1 o ho b err _ fun w2 hE2 => (h w2 (Ext.trans hE hE2)).2⟩⟩
theorem both8 (hO : OG w.heap o) (ho : o.kind = 8) : Both w o := by
  obtain ⟨r, c, F, err, h⟩ := b8 hO
  exact ⟨sX r c F err, by simp [sX, sY, sL, sB, sE], by simp [sX, sY, sL, sB, sE], fun _ => by simp [sX, sY, sL, sB, sE], fun w1 hE => ⟨plays8 w1 o ho r c F err _ fun w2 hE2 => (h w2 (Ext.trans hE hE2)).1, wants8 w1 o ho r c F err _ fun w2 hE2 => (h w2 (Ext.trans hE hE2)).2⟩⟩
theorem both9 (hO : OG w.heap o) (ho : o.kind = 9) : Both w o := by
  obtain ⟨r, c, F, err, h⟩ := b9 hO
  exact ⟨sX r c F err, by simp [sX, sY, sL, sB, sE], by simp [sX, sY, sL, sB, sE], fun _ => by simp [sX, sY, sL, sB, sE], fun w1 hE => ⟨plays9 w1 o ho r c F err _ fun w2 hE2 => (h w2 (Ext.trans hE hE2)).1, wants9 w1 o ho r c F err _ fun w2 hE2 => (h w2 (Ext.trans hE hE2)).2⟩⟩
theorem both10 (hO : OG w.heap o) (ho : o.kind = 10) : Both w o := by
  obtain ⟨r, c, F, err, h⟩ := b10 hO
  exact ⟨sX r c F err, by simp [sX, sY, sL, sB, sE], by simp [sX, sY, sL, sB, sE], fun _ => by simp [sX, sY, sL, sB, sE], fun w1 hE => ⟨plays10 w1 o ho r c F err _ fun w2 hE2 => (h w2 (Ext.trans hE hE2)).1, wants10 w1 o ho r c F err _ fun w2 hE2 => (h w2 (Ext.trans hE hE2)).2⟩⟩
theorem both11 (hO : OG w.heap o) (ho : o.kind = 11) : Both w o := by
  obtain ⟨r, c, F, err, h⟩ := b11 hO
  exact ⟨sX r c F err, by simp [sX, sY, sL, sB, sE], by simp [sX, sY, sL, sB, sE], fun _ => by simp [sX, sY, sL, sB, sE], fun w1 hE => ⟨plays11 w1 o ho r c F err _ fun w2 hE2 => (h w2 (Ext.trans hE hE2)).1, wants11 w1 o ho r c F err _ fun w2 hE2 => (h w2 (Ext.trans hE hE2)).2⟩⟩
theorem both12 (hO : OG w.heap o) (ho : o.kind = 12) : Both w o := by
  obtain ⟨n, Z, err, hn, h⟩ := b12 hO
  exact ⟨sL n Z err, by simp only [sL]; exact hn, by simp [sX, sY, sL, sB, sE], fun _ => by simp [sX, sY, sL, sB, sE], fun w1 hE => ⟨plays12 w1 o ho n Z err _ fun w2 hE2 => (h w2 (Ext.trans hE hE2)).1, wants12 w1 o ho n Z err _ fun w2 hE2 => (h w2 (Ext.trans hE hE2)).2⟩⟩
theorem both13 (hO : OG w.heap o) (ho : o.kind = 13) : Both w o := by
  obtain ⟨r, c, F, err, h⟩ := b13 hO
  exact ⟨sX r c F err, by simp [sX, sY, sL, sB, sE], by simp [sX, sY, sL, sB, sE], fun _ => by simp [sX, sY, sL, sB, sE], fun w1 hE => ⟨plays13 w1 o ho r c F err _ fun w2 hE2 => (h w2 (Ext.trans hE hE2)).1, wants13 w1 o ho r c F err _ fun w2 hE2 => (h w2 (Ext.trans hE hE2)).2⟩⟩
theorem both14 (hO : OG w.heap o) (ho : o.kind = 14) : Both w o := by
  obtain ⟨r, c, F, err, h⟩ := b14 hO
  exact ⟨sX r c F err, by simp [sX, sY, sL, sB, sE], by simp [sX, sY, sL, sB, sE], fun _ => by simp [sX, sY, sL, sB, sE], fun w1 hE => ⟨plays14 w1 o ho r c F err _ fun w2 hE2 => (h w2 (Ext.trans hE hE2)).1, wants14 w1 o ho r c F err _ fun w2 hE2 => (h w2 (Ext.trans hE hE2)).2⟩⟩
theorem both15 (hO : OG w.heap o) (ho : o.kind = 15) : Both w o := by
  obtain ⟨z, err, h⟩ := b15 hO
  exact ⟨sY z err, by simp [sX, sY, sL, sB, sE], by simp [sX, sY, sL, sB, sE], fun _ => by simp [sX, sY, sL, sB, sE], fun w1 hE => ⟨plays15 w1 o ho z err _ fun w2 hE2 => (h w2 (Ext.trans hE hE2)).1, wants15 w1 o ho z err _ fun w2 hE2 => (h w2 (Ext.trans hE hE2)).2⟩⟩
theorem both16 (hO : OG w.heap o) (ho : o.kind = 16) : Both w o := by
  obtain ⟨r, c, F, err, h⟩ := b16 hO
  exact ⟨sX r c F err, by simp [sX, sY, sL, sB, sE], by simp [sX, sY, sL, sB, sE], fun _ => by simp [sX, sY, sL, sB, sE], fun w1 hE => ⟨plays16 w1 o ho r c F err _ fun w2 hE2 => (h w2 (Ext.trans hE hE2)).1, wants16 w1 o ho r c F err _ fun w2 hE2 => (h w2 (Ext.trans hE hE2)).2⟩⟩
theorem both17 (hO : OG w.heap o) (ho : o.kind = 17) : Both w o := by
  obtain ⟨r, c, F, err, h⟩ := b17 hO
  exact ⟨sX r c F err, by simp [sX, sY, sL, sB, sE], by simp [sX, sY, sL, sB, sE], fun _ => by simp [sX, sY, sL, sB, sE], fun w1 hE => ⟨plays17 w1 o ho r c F err _ fun w2 hE2 => (h w2 (Ext.trans hE hE2)).1, wants17 w1 o ho r c F err _ fun w2 hE2 => (h w2 (Ext.trans hE hE2)).2⟩⟩
theorem both18 (hO : OG w.heap o) (ho : o.kind = 18) : Both w o := by
  obtain ⟨r, c, F, err, h⟩ := b18 hO
  exact ⟨sX r c F err, by simp [sX, sY, sL, sB, sE], by simp [sX, sY, sL, sB, sE], fun _ => by simp [sX, sY, sL, sB, sE], fun w1 hE => ⟨plays18 w1 o ho r c F err _ fun w2 hE2 => (h w2 (Ext.trans hE hE2)).1, wants18 w1 o ho r c F err _ fun w2 hE2 => (h w2 (Ext.trans hE hE2)).2⟩⟩
theorem both19 (hO : OG w.heap o) (ho : o.kind = 19) : Both w o := by
  obtain ⟨r, c, F, err, h⟩ := b19 hO
  exact ⟨sX r c F err, by simp [sX, sY, sL, sB, sE], by simp [sX, sY, sL, sB, sE], fun _ => by simp [sX, sY, sL, sB, sE], fun w1 hE => ⟨plays19 w1 o ho r c F err _ fun w2 hE2 => (h w2 (Ext.trans hE hE2)).1, wants19 w1 o ho r c F err _ fun w2 hE2 => (h w2 (Ext.trans hE hE2)).2⟩⟩
theorem both20 (hO : OG w.heap o) (ho : o.kind = 20) : Both w o := by
  by_cases h : Snd o.a
  · obtain ⟨r, c, hs⟩ := h
    have h64 := hs.r64
    have h65 := hs.c64
    exact ⟨sR r c (ent o.a c), by simp [sR, sE], by simp [sR, sE]; omega, fun _ => by simp [sR, sE]; omega, fun w1 hE => ⟨(plays20 w1 o ho r c _ 1048576 (by omega) fun w2 hE2 => lines_ok w2 _ r c _ ((hO.a.gm hs).ext (Ext.trans hE hE2)) (by omega)).mono fun e w' h => h.monoA (by omega), (wants20 w1 o ho r c _ 1048576 h64 fun w2 hE2 => rlines_ok w2 _ r c _ ((hO.a.gm hs).ext (Ext.trans hE hE2)) (by omega)).mono fun e w' h => h.monoA (by omega)⟩⟩
  · exact ⟨sR 0 0 (fun _ _ => 0), by simp [sR, sE], by simp [sR, sE], fun _ => by simp [sR, sE], fun w1 hE => ⟨(plays20 w1 o ho 0 0 _ 1048576 (by omega) fun w2 hE2 => lines_bad w2 _ hO.ia h _ _).mono fun e w' h => h.monoA (by omega), (wants20 w1 o ho 0 0 _ 1048576 (by omega) fun w2 hE2 => rlines_bad w2 _ h _ _).mono fun e w' h => h.monoA (by omega)⟩⟩
end
theorem both_any {w : World} {o : OV} (hO : OG w.heap o) (h1 : 1 ≤ o.kind) (h2 : o.kind ≤ 20) : Both w o := by
  have hk : o.kind = 1 ∨ o.kind = 2 ∨ o.kind = 3 ∨ o.kind = 4 ∨ o.kind = 5 ∨ o.kind = 6 ∨ o.kind = 7 ∨ o.kind = 8 ∨ o.kind = 9 ∨ o.kind = 10 ∨ o.kind = 11 ∨ o.kind = 12 ∨ o.kind = 13 ∨ o.kind = 14 ∨ o.kind = 15 ∨ o.kind = 16 ∨ o.kind = 17 ∨ o.kind = 18 ∨ o.kind = 19 ∨ o.kind = 20 := by omega
  rcases hk with h | h | h | h | h | h | h | h | h | h | h | h | h | h | h | h | h | h | h | h
  · exact both1 hO h
  · exact both2 hO h
  · exact both3 hO h
  · exact both4 hO h
  · exact both5 hO h
  · exact both6 hO h
  · exact both7 hO h
  · exact both8 hO h
  · exact both9 hO h
  · exact both10 hO h
  · exact both11 hO h
  · exact both12 hO h
  · exact both13 hO h
  · exact both14 hO h
  · exact both15 hO h
  · exact both16 hO h
  · exact both17 hO h
  · exact both18 hO h
  · exact both19 hO h
  · exact both20 hO h
set_option maxRecDepth 100000 in
theorem right_t (w : World) (o : OV) (hB : Both w o) : Cl Tryz.prog 8 #[.agg (ovc o).toArray] w (YesM w) := by
  obtain ⟨s0, hn, hrn, hrc, hb⟩ := hB
  obtain ⟨kd, ⟨ar, ac, aA, an, ak, al⟩, ⟨br, bc, bA, bn, bk, bl⟩, ⟨lA0, ln0, lk0, ll0⟩, ⟨kn, ⟨kA, km, kc, kl⟩⟩, on, om, pA, pn, pk, p, qA, qn, qk, q, sA, sn, sk, s⟩ := o
  have hP := fun w1 hE => (hb w1 hE).1
  have hW := fun w1 hE => (hb w1 hE).2
  clear hb
  refine enter Tryz.func8 rfl rfl rfl ?_
  have hF := Fr.refl w
  repeat' (first | (refine TL.isOp ?_; first | (refine TL.isCall ?_; refine TL.call rfl rfl ?_; first | (refine (hW _ hF.ext).mono ?_; rintro _ w1 ⟨⟨⟨xr, xc, xA, xn, xk, xl⟩, ⟨yn, ⟨yA, ym, yc, yl⟩⟩, ⟨lA, ln, lk, ll⟩, rA, rn, rk, rl, nA, nn, nk, ns, ok, e⟩, rfl, hA, hE, hf⟩; replace hF := Fr.addA hF hE hA hf; clear hE hA hf; refine Back.mk ?_) | (refine (hP _ hF.ext).mono ?_; rintro _ w1 ⟨⟨⟨xr', xc', xA', xn', xk', xl'⟩, ⟨yn', ⟨yA', ym', yc', yl'⟩⟩, ⟨lA', ln', lk', ll'⟩, rA', rn', rk', rl', nA', nn', nk', ns', ok', e'⟩, rfl, hA, hE, hf⟩; replace hF := Fr.addA hF hE hA hf; clear hE hA hf; refine Back.mk ?_) | (refine (same9_t _ ⟨⟨xr', xc', xA', xn', xk', xl'⟩, ⟨yn', ⟨yA', ym', yc', yl'⟩⟩, ⟨lA', ln', lk', ll'⟩, rA', rn', rk', rl', nA', nn', nk', ns', ok', e'⟩ ⟨⟨xr, xc, xA, xn, xk, xl⟩, ⟨yn, ⟨yA, ym, yc, yl⟩⟩, ⟨lA, ln, lk, ll⟩, rA, rn, rk, rl, nA, nn, nk, ns, ok, e⟩ s0 s0 1099511627776 (Fr.aok hF (by repeat (first | exact memH | apply memT))) (Fr.aok hF (by repeat (first | exact memH | apply memT))) (AS.Eqv.rfl s0) (Nat.le_refl _) hn hrn hrc).mono ?_; rintro _ wc ⟨rfl, hE⟩; replace hF := hF.exts hE; clear hE; refine Back.mk ?_)) | (apply TL.ev; (case hd => rfl); (case h => (first | exact ev_simple rfl | (apply Ev.isLoad; first | exact ev_loadAFr hF rfl (by refine ⟨?_, ?_⟩; (focus (repeat (first | exact InV.head | apply InV.tail))); rfl))))) | (refine TL.storeAFr hF rfl rfl rfl rfl (by refine ⟨?_, ?_⟩; (focus (repeat (first | apply SetV.head | apply SetV.tail))); rfl) rfl ?_; clear hF; intro ws hF) | (refine TL.boxAFr hF (d := 1) (cs := [.int .i64 kd, .int .i64 ar, .int .i64 ac, .slice aA an ak, .int .i64 br, .int .i64 bc, .slice bA bn bk, .slice lA0 ln0 lk0, .bool kn, .slice kA km kc, .int .i64 on, .int .i64 om, .slice pA pn pk, .slice qA qn qk, .slice sA sn sk]) rfl rfl ?_; clear hF; intro w1 b1 hF) | (refine TL.allocFr hF (d := 3) rfl rfl ?_; clear hF; intro w3 b3 hF) | (refine TL.allocFr hF (d := 4) rfl rfl ?_; clear hF; intro w4 b4 hF)) | (refine T.is ?_; first | refine T.seq ?_ | refine T.region ?_ | refine T.ret ?_) | (refine G.is ?_; first | refine G.next ?_) | refine TL.nil ?_)
  exact G.ret1 rfl rfl ⟨rfl, hF.ext⟩
set_option maxRecDepth 100000 in
theorem upTo_t (w : World) (A : Option Addr) (n k : Nat) (L : List OV) (hs : Sm 15 ovc w.heap w.heap.size A n k L) (hL : ∀ o ∈ L, OG w.heap o) (hn : n ≤ 1048576) : Cl Tryz.prog 5 #[.slice A n k, .int .i64 1, .int .i64 20] w (YesM w) := by
  have hlen := hs.len
  refine enter Tryz.func5 rfl rfl rfl ?_
  have hF := Fr.refl w
  repeat' (first | (refine TL.isOp ?_; first | (refine TL.isCall ?_; refine TL.call rfl rfl ?_; first | (refine (wakes_ok _).mono ?_; rintro _ wc ⟨rfl, hE⟩; replace hF := hF.exts hE; clear hE; refine Back.mk ?_)) | (apply TL.ev; (case hd => rfl); (case h => (first | exact ev_simple rfl)))) | (refine T.is ?_; first | refine T.seq ?_ | refine T.region ?_ | refine T.block ?_ | refine T.cond_f rfl ?_ | refine T.skip ?_) | (refine G.is ?_; first | refine G.next ?_) | refine TL.nil ?_)
  refine T.loop (α := Nat) (fun i => [(0, .slice A n k), (1, .int .i64 1), (2, .int .i64 20), (7, .int .i64 (i : Int))]) (fun i w' => i ≤ n ∧ Fr w w' [] []) (fun i => n - i) 0 (by repeat (first | exact Sub.nil _ | refine Sub.cons rfl ?_ | refine Sub.cons' rfl (int_congr (by omega)) ?_)) ⟨Nat.zero_le _, hF⟩ ?_
  clear hF
  rintro i w2 ⟨hi, hF⟩
  rcases Nat.lt_or_ge i n with hin | hin
  · have hy : L[i]? = some (L.getD i default) := by simp [List.getD, show i < L.length by omega]
    have hO := hL _ (List.mem_of_getElem? hy)
    generalize L.getD i default = o at *
    have hR := fun w1 (hE : Ext w w1) (h1 : 1 ≤ o.kind) (h2 : o.kind ≤ 20) => right_t w1 o (both_any (hO.ext hE) h1 h2)
    clear hO
    obtain ⟨kd, ⟨ar, ac, aA, an, ak, al⟩, ⟨br, bc, bA, bn, bk, bl⟩, ⟨lA0, ln0, lk0, ll0⟩, ⟨kn, ⟨kA, km, kc, kl⟩⟩, on, om, pA, pn, pk, p, qA, qn, qk, q, sA, sn, sk, s⟩ := o
    dsimp only at hR
    repeat' (first | (refine TL.isOp ?_; first | (refine TL.isG ?_; first | refine TL.grun rfl rfl rfl ?_ | refine TL.gskip rfl rfl rfl rfl ?_) | (refine TL.isCall ?_; refine TL.call rfl rfl ?_; first | (refine (hR _ hF.ext (by omega) (by omega)).mono ?_; rintro _ wc ⟨rfl, hE⟩; replace hF := hF.exts hE; clear hE; refine Back.mk ?_)) | (refine TL.isBin ?_; refine TL.cmpG rfl rfl rfl rfl (fun hc => ?_) (fun hc => ?_) <;> (try (first | (exfalso; omega) | exact absurd rfl hc))) | (apply TL.ev; (case hd => rfl); (case h => (first | exact ev_simple rfl | (apply Ev.isBin; first | exact ev_arN rfl rfl rfl (by omega)) | (apply Ev.isLoad; first | exact ev_loadMFc [.int .i64 kd, .int .i64 ar, .int .i64 ac, .slice aA an ak, .int .i64 br, .int .i64 bc, .slice bA bn bk, .slice lA0 ln0 lk0, .bool kn, .slice kA km kc, .int .i64 on, .int .i64 om, .slice pA pn pk, .slice qA qn qk, .slice sA sn sk] rfl (hs.ext hF.ext) hy rfl rfl | exact ev_loadMc [.int .i64 kd, .int .i64 ar, .int .i64 ac, .slice aA an ak, .int .i64 br, .int .i64 bc, .slice bA bn bk, .slice lA0 ln0 lk0, .bool kn, .slice kA km kc, .int .i64 on, .int .i64 om, .slice pA pn pk, .slice qA qn qk, .slice sA sn sk] rfl (hs.ext hF.ext) hy rfl) | exact ev_len rfl | exact ev_indexM rfl rfl hin (hs.ext hF.ext).some | exact ev_fieldAddrE rfl (hs.isSome hin))))) | (refine T.is ?_; first | refine T.seq ?_ | refine T.region ?_ | refine T.block ?_ | refine T.cond_t rfl ?_ | refine T.cond_f rfl ?_ | refine T.exit ?_ | refine T.skip ?_) | (refine G.is ?_; first | refine G.next ?_ | refine G.blockN ?_ | refine G.blockE ?_ | refine G.thenE ?_) | refine TL.nil ?_)
    all_goals first | exact G.again (i + 1) (by repeat (first | exact Sub.nil _ | refine Sub.cons rfl ?_ | refine Sub.cons' rfl (int_congr (by omega)) ?_)) ⟨by omega, hF⟩ (by omega)
  · obtain rfl : i = n := by omega
    repeat' (first | (refine TL.isOp ?_; first | (refine TL.isBin ?_; refine TL.cmpG rfl rfl rfl rfl (fun hc => ?_) (fun hc => ?_) <;> (try (first | (exfalso; omega) | exact absurd rfl hc))) | (apply TL.ev; (case hd => rfl); (case h => (first | exact ev_simple rfl | exact ev_len rfl)))) | (refine T.is ?_; first | refine T.seq ?_ | refine T.region ?_ | refine T.cond_f rfl ?_ | refine T.exit ?_ | refine T.ret ?_) | (refine G.is ?_; first | refine G.next ?_ | refine G.blockE ?_ | refine G.thenE ?_) | refine TL.nil ?_)
    exact G.ret1 rfl rfl ⟨rfl, hF.ext⟩
theorem matAll_t (w : World) (A : Option Addr) (n k : Nat) (L : List OV) (hs : Sm 15 ovc w.heap w.heap.size A n k L) (hL : ∀ o ∈ L, OG w.heap o) (hn : n ≤ 1048576) : Cl Tryz.prog 3 #[.slice A n k] w (YesM w) := by
  have hu := upTo_t w A n k L hs hL hn
  refine enter Tryz.func3 rfl rfl rfl ?_
  have hF := Fr.refl w
  repeat' (first | (refine TL.isOp ?_; first | (refine TL.isCall ?_; refine TL.call rfl rfl ?_; first | (refine hu.mono ?_; rintro _ wc ⟨rfl, hE⟩; replace hF := hF.exts hE; clear hE; refine Back.mk ?_)) | (apply TL.ev; (case hd => rfl); (case h => (first | exact ev_simple rfl)))) | (refine T.is ?_; first | refine T.seq ?_ | refine T.region ?_ | refine T.ret ?_) | (refine G.is ?_; first | refine G.next ?_) | refine TL.nil ?_)
  exact G.ret1 rfl rfl ⟨rfl, hF.ext⟩
end Go.Proofs.YtlhmehikajidhaaGreat
namespace Go.Proofs.YtlhmehikajidhaaGreat
open Go Go.Eng Go.Proofs Go.NatM Go.ChangeShapes Go.WideShapes Go.ChangeAt Go.RowKit Go.Deep
theorem len15 {α : Type} {l : List α} (h : l.length = 15) : ∃ a b c d e f g i j k m n o p q, l = [a, b, c, d, e, f, g, i, j, k, m, n, o, p, q] := by
  match l, h with
  | [a, b, c, d, e, f, g, i, j, k, m, n, o, p, q], _ => exact ⟨a, b, c, d, e, f, g, i, j, k, m, n, o, p, q, rfl⟩
theorem len10 {α : Type} {l : List α} (h : l.length = 10) : ∃ a b c d e f g i j k, l = [a, b, c, d, e, f, g, i, j, k] := by
  match l, h with
  | [a, b, c, d, e, f, g, i, j, k], _ => exact ⟨a, b, c, d, e, f, g, i, j, k, rfl⟩
theorem sm_sl {α : Type} {f : α → Value} {H : Array Obj} {B n c : Nat} {A : Option Addr} {l : List α} (h : Sm 1 (fun x => [f x]) H B A n c l) : Sl f H B A n c l := by
  refine ⟨h.len, h.cap, h.mem.imp id ?_⟩
  rintro ⟨b', o, e, hlt, hm⟩
  refine ⟨b', o, e, hlt, fun j x hx => ?_⟩
  have := hm j x hx 0 (f x) rfl
  simpa using this
structure OG0 (H : Array Obj) (o : OV) : Prop where
  a : RM0 H o.a
  ia : InR o.a
  b : RM0 H o.b
  ib : InR o.b
  l : Sm 2 ivc H H.size o.l.A o.l.n o.l.k o.l.l
  lg : ∀ y ∈ o.l.l, GI H y
  k : GI H o.k
  p : Sl i64v H H.size o.pA o.pn o.pk o.p
  q : Sl i64v H H.size o.qA o.qn o.qk o.q
  s : Sm 3 mvc H H.size o.sA o.sn o.sk o.s
  sg : ∀ y ∈ o.s, RM0 H y ∧ InR y
def smw (y : MV) : Nat := wts ivw y.l
def opw (o : OV) : Nat := wts ivw o.a.l + wts ivw o.b.l + wts ivw o.l.l + ivw o.k + o.pn + o.qn + max (wts smw o.s) o.sn
theorem OG0.og {H : Array Obj} {o : OV} (h : OG0 H o) (hw : opw o ≤ 1048576) : OG H o := by
  unfold opw at hw
  exact ⟨small_mat (Nat.le_refl _) h.a (by omega), h.ia, small_mat (Nat.le_refl _) h.b (by omega), h.ib, h.l, fun y hy => ⟨h.lg y hy, by have h1 := wts_mem (wt := ivw) hy; have h2 : ivw y = y.m.n := rfl; omega⟩, ⟨h.k, by have h2 : ivw o.k = o.k.m.n := rfl; omega⟩, h.p, by omega, h.q, by omega, h.s,
    fun y hy => ⟨small_mat (Nat.le_refl _) (h.sg y hy).1 (by have h1 := wts_mem (wt := smw) hy; have h2 : smw y = wts ivw y.l := rfl; omega), (h.sg y hy).2⟩, by omega⟩
set_option maxRecDepth 10000 in
theorem open_op9 {H : Type} {enc : TypeId × Value → H} {W : World} {base : Nat} {spare : Nat → Bool} {held : Bool} (m : Nat) (cs : List Value) (x : DataW H × List MemPlace)
    (h : DataW.trod enc Tryz.prog W base spare held m 34 cs = some x) : ∃ y : OV, cs = ovc y ∧ OG0 W.heap y ∧ opw y ≤ Rows.uptoBulk x.1 := by
  obtain ⟨xs, q, _, rfl, hl, hxl, hall⟩ := DataW.trod_struct Tryz.underlying34 h
  have hl' : cs.length = 15 := hl.trans (by kernel_rfl)
  have hxl' : xs.length = 10 := hxl.trans rfl
  obtain ⟨v0, v1, v2, v3, v4, v5, v6, v7, v8, v9, v10, v11, v12, v13, v14, rfl⟩ := len15 hl'
  obtain ⟨x0, x1, x2, x3, x4, x5, x6, x7, x8, x9, rfl⟩ := len10 hxl'
  obtain ⟨V, hV⟩ : ∃ V, V = [v0, v1, v2, v3, v4, v5, v6, v7, v8, v9, v10, v11, v12, v13, v14] := ⟨_, rfl⟩
  rw [← hV] at hall
  have ci : Tryz.prog.cellsOf 3 = 1 := by kernel_rfl
  have cm : Tryz.prog.cellsOf 27 = 3 := by kernel_rfl
  have cl : Tryz.prog.cellsOf 25 = 1 := by kernel_rfl
  have cz : Tryz.prog.cellsOf 30 = 2 := by kernel_rfl
  have cj : Tryz.prog.cellsOf 31 = 1 := by kernel_rfl
  have cs' : Tryz.prog.cellsOf 32 = 1 := by kernel_rfl
  have h0 : DataW.trod enc Tryz.prog W base spare held q 3 ((V.drop 0).take (Tryz.prog.cellsOf 3)) = some x0 := hall 0 _ rfl
  have h1 : DataW.trod enc Tryz.prog W base spare held q 27 ((V.drop 1).take (Tryz.prog.cellsOf 27)) = some x1 := hall 1 _ rfl
  have h2 : DataW.trod enc Tryz.prog W base spare held q 27 ((V.drop 4).take (Tryz.prog.cellsOf 27)) = some x2 := hall 2 _ rfl
  have h3 : DataW.trod enc Tryz.prog W base spare held q 25 ((V.drop 7).take (Tryz.prog.cellsOf 25)) = some x3 := hall 3 _ rfl
  have h4 : DataW.trod enc Tryz.prog W base spare held q 30 ((V.drop 8).take (Tryz.prog.cellsOf 30)) = some x4 := hall 4 _ rfl
  have h5 : DataW.trod enc Tryz.prog W base spare held q 3 ((V.drop 10).take (Tryz.prog.cellsOf 3)) = some x5 := hall 5 _ rfl
  have h6 : DataW.trod enc Tryz.prog W base spare held q 3 ((V.drop 11).take (Tryz.prog.cellsOf 3)) = some x6 := hall 6 _ rfl
  have h7 : DataW.trod enc Tryz.prog W base spare held q 31 ((V.drop 12).take (Tryz.prog.cellsOf 31)) = some x7 := hall 7 _ rfl
  have h8 : DataW.trod enc Tryz.prog W base spare held q 31 ((V.drop 13).take (Tryz.prog.cellsOf 31)) = some x8 := hall 8 _ rfl
  have h9 : DataW.trod enc Tryz.prog W base spare held q 32 ((V.drop 14).take (Tryz.prog.cellsOf 32)) = some x9 := hall 9 _ rfl
  clear hall
  rw [ci] at h0 h5 h6
  rw [cm] at h1 h2
  rw [cl] at h3
  rw [cz] at h4
  rw [cj] at h7 h8
  rw [cs'] at h9
  subst hV
  obtain ⟨z0, e0, _⟩ := open_i64c Tryz.underlying3 h0
  obtain rfl : v0 = .int .i64 z0 := by simpa using e0
  obtain ⟨a, e1, ⟨ra, ia⟩, _, ma, _⟩ := open_matcT _ _ _ h1
  obtain ⟨ar, ac, aA, an, ak, al⟩ := a
  obtain ⟨rfl, rfl, rfl⟩ : v1 = .int .i64 ar ∧ v2 = .int .i64 ac ∧ v3 = .slice aA an ak := by simpa [mvc] using e1
  obtain ⟨b, e2, ⟨rb, ib⟩, _, mb, _⟩ := open_matcT _ _ _ h2
  obtain ⟨br, bc, bA, bn, bk, bl⟩ := b
  obtain ⟨rfl, rfl, rfl⟩ : v4 = .int .i64 br ∧ v5 = .int .i64 bc ∧ v6 = .slice bA bn bk := by simpa [mvc] using e2
  obtain ⟨lA, ln, lk, ll, e3, s3, g3, m3, _⟩ := open_elems ivc (GI W.heap) ivw (show 0 < 2 by omega) (fun _ => rfl) Tryz.underlying25 (by kernel_rfl) (fun m cs x h => open_int m cs x h) h3
  obtain rfl : v7 = .slice lA ln lk := by simpa using e3
  obtain ⟨y, e4, g4, m4⟩ := open_int _ _ _ h4
  obtain ⟨yn, yA, ym, yc, yl⟩ := y
  obtain ⟨rfl, rfl⟩ : v8 = .bool yn ∧ v9 = .slice yA ym yc := by simpa [ivc, sav] using e4
  obtain ⟨z5, e5, _⟩ := open_i64c Tryz.underlying3 h5
  obtain rfl : v10 = .int .i64 z5 := by simpa using e5
  obtain ⟨z6, e6, _⟩ := open_i64c Tryz.underlying3 h6
  obtain rfl : v11 = .int .i64 z6 := by simpa using e6
  obtain ⟨pA, pn, pk, p, e7, s7, _, _, m7⟩ := open_elems (fun x => [i64v x]) (fun _ => True) (fun _ => 0) (show 0 < 1 by omega) (fun _ => rfl) Tryz.underlying31 (by kernel_rfl) (fun m cs x h => by obtain ⟨z, e, _⟩ := open_i64c Tryz.underlying3 h; exact ⟨z, e, True.intro, Nat.zero_le _⟩) h7
  obtain rfl : v12 = .slice pA pn pk := by simpa using e7
  obtain ⟨qA, qn, qk, q', e8, s8, _, _, m8⟩ := open_elems (fun x => [i64v x]) (fun _ => True) (fun _ => 0) (show 0 < 1 by omega) (fun _ => rfl) Tryz.underlying31 (by kernel_rfl) (fun m cs x h => by obtain ⟨z, e, _⟩ := open_i64c Tryz.underlying3 h; exact ⟨z, e, True.intro, Nat.zero_le _⟩) h8
  obtain rfl : v13 = .slice qA qn qk := by simpa using e8
  obtain ⟨sA, sn, sk, s, e9, s9, g9, m9, m9'⟩ := open_elems mvc (fun y => RM0 W.heap y ∧ InR y) smw (show 0 < 3 by omega) (fun _ => rfl) Tryz.underlying32 (by kernel_rfl) (fun m cs x h => by obtain ⟨y, e, r, _, m1, _⟩ := open_matcT m cs x h; exact ⟨y, e, r, m1⟩) h9
  obtain rfl : v14 = .slice sA sn sk := by simpa using e9
  refine ⟨⟨z0, ⟨ar, ac, aA, an, ak, al⟩, ⟨br, bc, bA, bn, bk, bl⟩, ⟨lA, ln, lk, ll⟩, ⟨yn, ⟨yA, ym, yc, yl⟩⟩, z5, z6, pA, pn, pk, p, qA, qn, qk, q', sA, sn, sk, s⟩, rfl, ⟨ra, ia, rb, ib, s3, g3, g4, sm_sl s7, sm_sl s8, s9, g9⟩, ?_⟩
  simp only [opw, List.map_cons, List.map_nil, Rows.uptoBulk, Rows.uptoBulkAll] at ma mb m3 m4 m7 m8 m9 m9' ⊢
  omega
set_option maxRecDepth 100000 in
theorem open_ops9 {H : Type} {enc : TypeId × Value → H} {W : World} {base base' : Nat} {spare : Nat → Bool} {held : Bool} {v : Value} {d : DataW H} {ps : List MemPlace}
    (hv : Value.okWide Tryz.prog W .any base' 22 v) (h : DataW.Trod enc Tryz.prog W base spare held 22 v d ps) :
    ∃ A n c L, v = .slice A n c ∧ Sm 15 ovc W.heap W.heap.size A n c L ∧ (∀ s ∈ L, OG0 W.heap s) ∧ (wts opw L + 1 ≤ Rows.uptoBulk d ∧ n + 1 ≤ Rows.uptoBulk d) := by
  obtain ⟨A, n, c, rfl⟩ := okWide_slice Tryz.underlying22 hv
  obtain ⟨fuel, hf⟩ := h
  obtain ⟨A', n', c', L, e, r⟩ := open_elems (x := (d, ps)) ovc (fun s => OG0 W.heap s) opw (show 0 < 15 by omega) (fun _ => rfl) Tryz.underlying22 (by kernel_rfl) (fun m cs x h => open_op9 m cs x h) hf
  have e' : [Value.slice A n c] = [.slice A' n' c'] := e
  simp at e'
  obtain ⟨rfl, rfl, rfl⟩ := e'
  exact ⟨A, n, c, L, rfl, r⟩
theorem small_ops9 {n : Nat} {L : List OV} {b : Nat} (h : b ≤ 1048576) (hn : wts opw L + 1 ≤ b ∧ n + 1 ≤ b) : wts opw L ≤ 1048576 ∧ n ≤ 1048576 := by omega
theorem matAll_w (w : World) (A : Option Addr) (n k : Nat) (L : List OV) (hs : Sm 15 ovc w.heap w.heap.size A n k L) (hL : ∀ o ∈ L, OG0 w.heap o) (hb : wts opw L ≤ 1048576 ∧ n ≤ 1048576) : Cl Tryz.prog 3 #[.slice A n k] w (YesM w) :=
  matAll_t w A n k L hs (fun o ho => (hL o ho).og (Nat.le_trans (wts_mem (wt := opw) ho) hb.1)) hb.2
end Go.Proofs.YtlhmehikajidhaaGreat
