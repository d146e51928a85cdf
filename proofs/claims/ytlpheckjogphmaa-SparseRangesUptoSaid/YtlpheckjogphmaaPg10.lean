/- Layer 10: grids; contracts of Set; the law's awake. Layer 10: the law's awake; nil grids; the law SparseNil. Layer 10: nil grids; the law SparseNil. Layer 10: the law SparseNil. The engine: literals of any number of structs; lists as facts in frames. The engine: a list appended to a new, empty one; a part, of many cells, of an element. Layer 10: lists of places; the contract of line. Layer 10: the contract of Clear. Layer 10: lists of keys and values as functions; the contract of Swap. Layer 10: the contracts of Turn and Copy. -/
import Derived.Test.YtlpheckjogphmaaPg9
import Derived.Test.YtlpheckjogphmaaPg7
import Derived.Test.YtlpheckjogphmaaPg8
set_option linter.unusedVariables false
set_option linter.unusedSimpArgs false
namespace Go.Proofs.Ytlpheckjogphmaa
open Go Go.Eng Go.Proofs Go.NatM Go.RowKit

theorem gset_out (w : World) (g m r c : Nat) (l : GL) (p1 p2 : Int) (x : IV) (hG : Gr w.heap g m r c l) (hp : ¬ ((0 ≤ p1 ∧ p1 < (r : Int)) ∧ (0 ≤ p2 ∧ p2 < (c : Int)))) :
    Cl Try.prog 16 #[.pointer (some ⟨g, 0, none⟩), .int .i64 p1, .int .i64 p2, ivA x] w (fun e w' => e = .returned (.int .i64 3) ∧ Ext w w') := by
  have hF := Gr.fr hG fun _ => False
  clear hG
  obtain ⟨xn, ⟨xA, xk, xc, xl⟩⟩ := x
  by_cases h0 : 0 ≤ p1 ∧ p1 < (r : Int)
  · have h1 := fun w1 => in_t w1 p1 r h0
    have h2 := fun w1 => in_f w1 p2 c fun hh => hp ⟨h0, hh⟩
    clear hp h0
    refine enter Try.func16 rfl rfl rfl ?_
    repeat' (first | (refine TL.isOp ?_; first | (refine TL.isG ?_; first | refine TL.grun rfl rfl rfl ?_) | (refine TL.isCall ?_; refine TL.call rfl rfl ?_; first | (refine (h1 _).mono ?_; rintro _ wy ⟨rfl, hE⟩; replace hF := hF.exts hE; clear hE; refine Back.mk ?_) | (refine (h2 _).mono ?_; rintro _ wy ⟨rfl, hE⟩; replace hF := hF.exts hE; clear hE; refine Back.mk ?_)) | (apply TL.ev; (case hd => rfl); (case h => (first | exact ev_simple rfl | (apply Ev.isBin; first | exact ev_eqlP rfl rfl rfl) | (apply Ev.isLoad; first | exact ev_loadCb hF rfl (by repeat (first | exact memH | apply memT)) rfl) | exact ev_fieldAddr rfl | exact ev_nilCheck rfl))) | (refine TL.boxAFr hF (d := 7) (cs := [.bool xn, .slice xA xk xc]) rfl rfl ?_; clear hF; intro w7 b7 hF)) | (refine T.is ?_; first | refine T.seq ?_ | refine T.region ?_ | refine T.cond_t rfl ?_ | refine T.ret ?_) | (refine G.is ?_; first | refine G.next ?_ | refine G.thenR ?_) | refine TL.nil ?_)
    all_goals exact G.ret1 rfl rfl ⟨rfl, hF.ext⟩
  · have h1 := fun w1 => in_f w1 p1 r h0
    clear hp h0
    refine enter Try.func16 rfl rfl rfl ?_
    repeat' (first | (refine TL.isOp ?_; first | (refine TL.isG ?_; first | refine TL.grun rfl rfl rfl ?_ | refine TL.gskip rfl rfl rfl rfl ?_) | (refine TL.isCall ?_; refine TL.call rfl rfl ?_; first | (refine (h1 _).mono ?_; rintro _ wy ⟨rfl, hE⟩; replace hF := hF.exts hE; clear hE; refine Back.mk ?_)) | (apply TL.ev; (case hd => rfl); (case h => (first | exact ev_simple rfl | (apply Ev.isBin; first | exact ev_eqlP rfl rfl rfl) | (apply Ev.isLoad; first | exact ev_loadCb hF rfl (by repeat (first | exact memH | apply memT)) rfl) | exact ev_fieldAddr rfl | exact ev_nilCheck rfl))) | (refine TL.boxAFr hF (d := 7) (cs := [.bool xn, .slice xA xk xc]) rfl rfl ?_; clear hF; intro w7 b7 hF)) | (refine T.is ?_; first | refine T.seq ?_ | refine T.region ?_ | refine T.cond_t rfl ?_ | refine T.ret ?_) | (refine G.is ?_; first | refine G.next ?_ | refine G.thenR ?_) | refine TL.nil ?_)
    all_goals exact G.ret1 rfl rfl ⟨rfl, hF.ext⟩
/-- what a refused Set meets -/
def GLarge (l : GL) (p : Int × Int) (x : IV) : Prop := big x ∨ (lkp l p).isSome = false ∧ ival x ≠ 0 ∧ 4096 ≤ l.length
theorem sig_ne {z : Int} (hz : z ≠ 0) : sig z ≠ 0 := by unfold sig; (repeat' split) <;> first | decide | omega
set_option maxHeartbeats 800000 in
theorem gset_large (w : World) (g m r c : Nat) (l : GL) (p1 p2 : Int) (x : IV) (hG : Gr w.heap g m r c l) (hp : (0 ≤ p1 ∧ p1 < (r : Int)) ∧ (0 ≤ p2 ∧ p2 < (c : Int))) (hx : GI w.heap x) (hxn : x.m.n ≤ 1099511627776) (hl : GLarge l (p1, p2) x) :
    Cl Try.prog 16 #[.pointer (some ⟨g, 0, none⟩), .int .i64 p1, .int .i64 p2, ivA x] w (fun e w' => e = .returned (.int .i64 5) ∧ Ext w w') := by
  have hF := Gr.frD hG (Fr.mt (Fr.refS w fun _ => False) (dpGI x) (by unfold dpGI; exact hx))
  clear hG
  have h1 := fun w1 => in_t w1 p1 r hp.1
  have h2 := fun w1 => in_t w1 p2 c hp.2
  have hsg := fun w1 (g1 : GI w1.heap x) => zsign_ok w1 x g1 (by omega)
  obtain ⟨b, hb⟩ : ∃ b, (lkp l (p1, p2)).isSome = b := ⟨_, rfl⟩
  generalize hs : sig (ival x) = sg at hsg
  by_cases hbig : big x
  · have hlong := fun w1 (g1 : GI w1.heap x) => long_ok w1 x g1 (by omega) true ⟨fun _ => hbig, fun _ => rfl⟩
    clear hp hx hl hs
    obtain ⟨xn, ⟨xA, xk, xc, xl⟩⟩ := x
    refine enter Try.func16 rfl rfl rfl ?_
    repeat' (first | (refine TL.isOp ?_; first | (refine TL.isG ?_; first | refine TL.grun rfl rfl rfl ?_) | (refine TL.isCall ?_; refine TL.call rfl rfl ?_; first | (refine (h1 _).mono ?_; rintro _ wy ⟨rfl, hE⟩; replace hF := hF.exts hE; clear hE; refine Back.mk ?_) | (refine (h2 _).mono ?_; rintro _ wy ⟨rfl, hE⟩; replace hF := hF.exts hE; clear hE; refine Back.mk ?_) | (refine (hlong _ (Fr.gi hF (by repeat (first | exact memH | apply memT)))).mono ?_; rintro _ wy ⟨rfl, hE⟩; replace hF := hF.exts hE; clear hE; refine Back.mk ?_)) | (apply TL.ev; (case hd => rfl); (case h => (first | exact ev_simple rfl | (apply Ev.isBin; first | exact ev_eqlP rfl rfl rfl) | (apply Ev.isLoad; first | exact ev_loadAFr hF rfl (by refine ⟨?_, ?_⟩; (focus (repeat (first | exact InV.head | apply InV.tail))); rfl) | exact ev_loadCb hF rfl (by repeat (first | exact memH | apply memT)) rfl) | exact ev_fieldAddr rfl | exact ev_buildX rfl rfl | exact ev_nilCheck rfl | exact ev_mlookOkI hF (y := (p1, p2)) rfl rfl (by repeat (first | exact memH | apply memT)) hb))) | (refine TL.storeAFr hF rfl rfl rfl rfl (by refine ⟨?_, ?_⟩; (focus (repeat (first | apply SetV.head | apply SetV.tail))); rfl) rfl ?_; clear hF; intro ws hF) | (refine TL.boxAFr hF (d := 7) (cs := [.bool xn, .slice xA xk xc]) rfl rfl ?_; clear hF; intro w7 b7 hF) | (refine TL.allocFr hF (d := 9) rfl rfl ?_; clear hF; intro w9 b9 hF) | (refine TL.allocFr hF (d := 10) rfl rfl ?_; clear hF; intro w10 b10 hF)) | (refine TF.is ?_; first | refine TF.nil ?_ | refine TF.e rfl ?_ | refine TF.alt ?_ ?_ | (refine TF.pick rfl ?_; first | (apply TFo.ev; (case hd => rfl); (case h => (intro wh hF; first | exact ev_simple rfl | (apply Ev.isLoad; first | exact ev_loadAFr hF rfl (by refine ⟨?_, ?_⟩; (focus (repeat (first | exact InV.head | apply InV.tail))); rfl) | exact ev_loadCb hF rfl (by repeat (first | exact memH | apply memT)) rfl) | exact ev_fieldAddr rfl | exact ev_nilCheck rfl))))) | (refine T.is ?_; first | refine T.seq ?_ | refine T.region ?_ | refine T.cond_t rfl ?_ | refine T.cond_f rfl ?_ | refine T.ret ?_ | refine T.skip ?_ | (refine T.regionFr hF 4 12 (.s 0 (.s 1 (.s 2 (.s 3 (.s 4 (.alt (.e 5 (.s 6 (.s 7 (.s 8 (.e 9 (.e 10 (.s 11 .nil))))))) (.e 9 (.e 5 (.s 6 (.s 7 (.s 8 (.e 10 (.s 11 .nil))))))))))))) mixed (by kernel_rfl) ?_; clear hF; intro wr hF)) | (refine G.is ?_; first | refine G.next ?_ | refine G.thenR ?_ | refine G.only ?_ | refine G.tree rfl (by first | exact hF | exact hF.weak (List.sublist_append_right _ _) (by repeat (first | exact allR | apply allT)) | exact hF.weak (by repeat (first | exact List.Sublist.refl _ | apply List.Sublist.cons)) (by repeat (first | exact allR | apply allT)) | exact hF.weak (by repeat (first | exact List.Sublist.refl _ | apply List.Sublist.cons)) (by repeat (first | exact allN | refine allH (by repeat (first | exact memH | apply memT)) ?_))) ?_) | refine TL.nil ?_)
    all_goals exact G.ret1 rfl rfl ⟨rfl, hF.ext⟩
  · have hlong := fun w1 (g1 : GI w1.heap x) => long_ok w1 x g1 (by omega) false ⟨fun h => (by cases h), fun h => absurd h hbig⟩
    have hl2 := hl.resolve_left hbig
    have hsz : sg ≠ 0 := by rw [← hs]; exact sig_ne hl2.2.1
    have hb2 : b = false := hb.symm.trans hl2.1
    subst hb2
    have hlen := hl2.2.2
    clear hp hx hl hs hl2
    obtain ⟨xn, ⟨xA, xk, xc, xl⟩⟩ := x
    refine enter Try.func16 rfl rfl rfl ?_
    repeat' (first | (refine TL.isOp ?_; first | (refine TL.isG ?_; first | refine TL.grun rfl rfl rfl ?_) | (refine TL.isCall ?_; refine TL.call rfl rfl ?_; first | (refine (h1 _).mono ?_; rintro _ wy ⟨rfl, hE⟩; replace hF := hF.exts hE; clear hE; refine Back.mk ?_) | (refine (h2 _).mono ?_; rintro _ wy ⟨rfl, hE⟩; replace hF := hF.exts hE; clear hE; refine Back.mk ?_) | (refine (hlong _ (Fr.gi hF (by repeat (first | exact memH | apply memT)))).mono ?_; rintro _ wy ⟨rfl, hE⟩; replace hF := hF.exts hE; clear hE; refine Back.mk ?_) | (refine (hsg _ (Fr.gi hF (by repeat (first | exact memH | apply memT)))).mono ?_; rintro _ wy ⟨rfl, hE⟩; replace hF := hF.exts hE; clear hE; refine Back.mk ?_)) | (refine TL.isBin ?_; refine TL.cmpG rfl rfl rfl rfl (fun hc => ?_) (fun hc => ?_) <;> (try (first | (exfalso; omega) | exact absurd rfl hc))) | (apply TL.ev; (case hd => rfl); (case h => (first | exact ev_simple rfl | (apply Ev.isBin; first | exact ev_eqlP rfl rfl rfl) | (apply Ev.isLoad; first | exact ev_loadAFr hF rfl (by refine ⟨?_, ?_⟩; (focus (repeat (first | exact InV.head | apply InV.tail))); rfl) | exact ev_loadCb hF rfl (by repeat (first | exact memH | apply memT)) rfl) | exact ev_fieldAddr rfl | exact ev_buildX rfl rfl | exact ev_nilCheck rfl | exact ev_mlookOkI hF (y := (p1, p2)) rfl rfl (by repeat (first | exact memH | apply memT)) hb | exact ev_mlen hF rfl (by repeat (first | exact memH | apply memT))))) | (refine TL.storeAFr hF rfl rfl rfl rfl (by refine ⟨?_, ?_⟩; (focus (repeat (first | apply SetV.head | apply SetV.tail))); rfl) rfl ?_; clear hF; intro ws hF) | (refine TL.boxAFr hF (d := 7) (cs := [.bool xn, .slice xA xk xc]) rfl rfl ?_; clear hF; intro w7 b7 hF) | (refine TL.allocFr hF (d := 9) rfl rfl ?_; clear hF; intro w9 b9 hF) | (refine TL.allocFr hF (d := 10) rfl rfl ?_; clear hF; intro w10 b10 hF)) | (refine TF.is ?_; first | refine TF.nil ?_ | refine TF.e rfl ?_ | refine TF.alt ?_ ?_ | (refine TF.pick rfl ?_; first | (apply TFo.ev; (case hd => rfl); (case h => (intro wh hF; first | exact ev_simple rfl | (apply Ev.isLoad; first | exact ev_loadAFr hF rfl (by refine ⟨?_, ?_⟩; (focus (repeat (first | exact InV.head | apply InV.tail))); rfl) | exact ev_loadCb hF rfl (by repeat (first | exact memH | apply memT)) rfl) | exact ev_fieldAddr rfl | exact ev_nilCheck rfl))))) | (refine T.is ?_; first | refine T.seq ?_ | refine T.region ?_ | refine T.cond_t rfl ?_ | refine T.cond_f rfl ?_ | refine T.ret ?_ | refine T.skip ?_ | (refine T.regionFr hF 4 12 (.s 0 (.s 1 (.s 2 (.s 3 (.s 4 (.alt (.e 5 (.s 6 (.s 7 (.s 8 (.e 9 (.e 10 (.s 11 .nil))))))) (.e 9 (.e 5 (.s 6 (.s 7 (.s 8 (.e 10 (.s 11 .nil))))))))))))) mixed (by kernel_rfl) ?_; clear hF; intro wr hF)) | (refine G.is ?_; first | refine G.next ?_ | refine G.thenR ?_ | refine G.only ?_ | refine G.tree rfl (by first | exact hF | exact hF.weak (List.sublist_append_right _ _) (by repeat (first | exact allR | apply allT)) | exact hF.weak (by repeat (first | exact List.Sublist.refl _ | apply List.Sublist.cons)) (by repeat (first | exact allR | apply allT)) | exact hF.weak (by repeat (first | exact List.Sublist.refl _ | apply List.Sublist.cons)) (by repeat (first | exact allN | refine allH (by repeat (first | exact memH | apply memT)) ?_))) ?_) | refine TL.nil ?_)
    all_goals exact G.ret1 rfl rfl ⟨rfl, hF.ext⟩
theorem Fr.swapD {S : Nat → Prop} {w0 w : World} {L : List VB} {a b : DP} {D : List DP} (h : Fr w0 w L (a :: b :: D) S) : Fr w0 w L (b :: a :: D) S :=
  h.weak (List.Sublist.refl _) fun d hd => by
    simp only [List.mem_cons] at hd ⊢
    rcases hd with h | h | h
    · exact .inr (.inl h)
    · exact .inl h
    · exact .inr (.inr h)
set_option maxHeartbeats 800000 in
theorem gset_put (w : World) (g m r c : Nat) (l : GL) (p1 p2 : Int) (x : IV) (hG : Gr w.heap g m r c l) (hp : (0 ≤ p1 ∧ p1 < (r : Int)) ∧ (0 ≤ p2 ∧ p2 < (c : Int))) (hx : GI w.heap x) (hxn : x.m.n ≤ 1099511627776) (hl : ¬ GLarge l (p1, p2) x) (hz : ival x ≠ 0) :
    Cl Try.prog 16 #[.pointer (some ⟨g, 0, none⟩), .int .i64 p1, .int .i64 p2, ivA x] w (fun e w' => ∃ y, LI w'.heap (ival x) y ∧ RetW w g m r c (ups l (p1, p2) y) (.int .i64 0) e w') := by
  have hF := Gr.frD hG (Fr.mt (Fr.refS w fun k => k = m) (dpGI x) (by unfold dpGI; exact hx))
  have hgm := hG.ne
  clear hG
  have h1 := fun w1 => in_t w1 p1 r hp.1
  have h2 := fun w1 => in_t w1 p2 c hp.2
  have hsg := fun w1 (g1 : GI w1.heap x) => zsign_ok w1 x g1 (by omega)
  obtain ⟨b, hb⟩ : ∃ b, (lkp l (p1, p2)).isSome = b := ⟨_, rfl⟩
  have hbig : ¬ big x := fun h => hl (.inl h)
  have hlen : b = false → l.length < 4096 := fun h => by
    refine Nat.lt_of_not_le fun h' => hl (.inr ⟨hb.trans h, hz, h'⟩)
  have hlong := fun w1 (g1 : GI w1.heap x) => long_ok w1 x g1 (by omega) false ⟨fun h => (by cases h), fun h => absurd h hbig⟩
  have hzl := fun w1 (g1 : GI w1.heap x) => zleast_ok w1 x g1 (by omega)
  have hfew : ∀ (H : Array Obj) y, LI H (ival x) y → y.m.n ≤ 16384 := fun H y h => h.few hbig
  generalize hs : sig (ival x) = sg at hsg
  have hsz : sg ≠ 0 := by rw [← hs]; exact sig_ne hz
  generalize ival x = z at *
  clear hp hx hl hs hbig
  obtain ⟨xn, ⟨xA, xk, xc, xl⟩⟩ := x
  refine enter Try.func16 rfl rfl rfl ?_
  cases b
  · have hlen := hlen rfl
    repeat' (first | (refine TL.isOp ?_; first | (refine TL.isG ?_; first | refine TL.grun rfl rfl rfl ?_) | (refine TL.isCall ?_; refine TL.call rfl rfl ?_; first | (refine (h1 _).mono ?_; rintro _ wy ⟨rfl, hE⟩; replace hF := hF.exts hE; clear hE; refine Back.mk ?_) | (refine (h2 _).mono ?_; rintro _ wy ⟨rfl, hE⟩; replace hF := hF.exts hE; clear hE; refine Back.mk ?_) | (refine (hlong _ (Fr.gi hF (by repeat (first | exact memH | apply memT)))).mono ?_; rintro _ wy ⟨rfl, hE⟩; replace hF := hF.exts hE; clear hE; refine Back.mk ?_) | (refine (hsg _ (Fr.gi hF (by repeat (first | exact memH | apply memT)))).mono ?_; rintro _ wy ⟨rfl, hE⟩; replace hF := hF.exts hE; clear hE; refine Back.mk ?_) | (refine (hzl _ (Fr.gi hF (by repeat (first | exact memH | apply memT)))).mono ?_; rintro _ wy ⟨y, rfl, hy, hE, hyn⟩; replace hF := Fr.addLI (hF.exts hE) hy; clear hE hyn hy; refine Back.mk ?_) | (refine (gput_put _ g m r c l (p1, p2) y z (hF.gr (by repeat (first | exact memH | apply memT)) (by repeat (first | exact memH | apply memT)) (by repeat (first | exact memH | apply memT))) (Fr.li hF (by repeat (first | exact memH | apply memT))) (hfew _ _ (Fr.li hF (by repeat (first | exact memH | apply memT)))) hz).mono ?_; rintro _ wy ⟨rfl, hE, hG⟩; replace hF := Fr.addGv (Fr.callMp (Fr.swapD hF) hE (.inr rfl) (nfC nf_li (nfC (nf_cb hgm) (nfC nf_gv (nfC nf_gi nfN)))) hG.mp) hG.vals; clear hE hG; refine Back.mk ?_)) | (refine TL.isBin ?_; refine TL.cmpG rfl rfl rfl rfl (fun hc => ?_) (fun hc => ?_) <;> (try (first | (exfalso; omega) | exact absurd rfl hc))) | (apply TL.ev; (case hd => rfl); (case h => (first | exact ev_simple rfl | (apply Ev.isBin; first | exact ev_eqlP rfl rfl rfl) | (apply Ev.isLoad; first | exact ev_loadAFr hF rfl (by refine ⟨?_, ?_⟩; (focus (repeat (first | exact InV.head | apply InV.tail))); rfl) | exact ev_loadCb hF rfl (by repeat (first | exact memH | apply memT)) rfl) | exact ev_fieldAddr rfl | exact ev_buildX rfl rfl | exact ev_nilCheck rfl | exact ev_mlookOkI hF (y := (p1, p2)) rfl rfl (by repeat (first | exact memH | apply memT)) hb | exact ev_mlen hF rfl (by repeat (first | exact memH | apply memT))))) | (refine TL.storeAFr hF rfl rfl rfl rfl (by refine ⟨?_, ?_⟩; (focus (repeat (first | apply SetV.head | apply SetV.tail))); rfl) rfl ?_; clear hF; intro ws hF) | (refine TL.boxAFr hF (d := 7) (cs := [.bool xn, .slice xA xk xc]) rfl rfl ?_; clear hF; intro w7 b7 hF) | (refine TL.allocFr hF (d := 9) rfl rfl ?_; clear hF; intro w9 b9 hF) | (refine TL.allocFr hF (d := 10) rfl rfl ?_; clear hF; intro w10 b10 hF)) | (refine TF.is ?_; first | refine TF.nil ?_ | refine TF.e rfl ?_ | refine TF.alt ?_ ?_ | (refine TF.pick rfl ?_; first | (apply TFo.ev; (case hd => rfl); (case h => (intro wh hF; first | exact ev_simple rfl | (apply Ev.isLoad; first | exact ev_loadAFr hF rfl (by refine ⟨?_, ?_⟩; (focus (repeat (first | exact InV.head | apply InV.tail))); rfl) | exact ev_loadCb hF rfl (by repeat (first | exact memH | apply memT)) rfl) | exact ev_fieldAddr rfl | exact ev_nilCheck rfl))))) | (refine T.is ?_; first | refine T.seq ?_ | refine T.region ?_ | refine T.cond_f rfl ?_ | refine T.ret ?_ | refine T.skip ?_ | (refine T.regionFr hF 4 12 (.s 0 (.s 1 (.s 2 (.s 3 (.s 4 (.alt (.e 5 (.s 6 (.s 7 (.s 8 (.e 9 (.e 10 (.s 11 .nil))))))) (.e 9 (.e 5 (.s 6 (.s 7 (.s 8 (.e 10 (.s 11 .nil))))))))))))) mixed (by kernel_rfl) ?_; clear hF; intro wr hF) | (refine T.regionFr hF 9 4 (.s 0 (.s 1 (.s 2 (.e 3 (.e 4 .nil))))) mixed (by kernel_rfl) ?_; clear hF; intro wr hF)) | (refine G.is ?_; first | refine G.next ?_ | refine G.only ?_ | refine G.treeEnd rfl ?_ | refine G.tree rfl (by first | exact hF | exact hF.weak (List.sublist_append_right _ _) (by repeat (first | exact allR | apply allT)) | exact hF.weak (by repeat (first | exact List.Sublist.refl _ | apply List.Sublist.cons)) (by repeat (first | exact allR | apply allT)) | exact hF.weak (by repeat (first | exact List.Sublist.refl _ | apply List.Sublist.cons)) (by repeat (first | exact allN | refine allH (by repeat (first | exact memH | apply memT)) ?_))) ?_) | refine TL.nil ?_)
    all_goals exact G.ret1 rfl rfl ⟨y, Fr.li hF (by repeat (first | exact memH | apply memT)), rfl, hF.exs, hF.gr (by repeat (first | exact memH | apply memT)) (by repeat (first | exact memH | apply memT)) (by repeat (first | exact memH | apply memT))⟩
  · clear hlen
    repeat' (first | (refine TL.isOp ?_; first | (refine TL.isG ?_; first | refine TL.grun rfl rfl rfl ?_ | refine TL.gskip rfl rfl rfl rfl ?_) | (refine TL.isCall ?_; refine TL.call rfl rfl ?_; first | (refine (h1 _).mono ?_; rintro _ wy ⟨rfl, hE⟩; replace hF := hF.exts hE; clear hE; refine Back.mk ?_) | (refine (h2 _).mono ?_; rintro _ wy ⟨rfl, hE⟩; replace hF := hF.exts hE; clear hE; refine Back.mk ?_) | (refine (hlong _ (Fr.gi hF (by repeat (first | exact memH | apply memT)))).mono ?_; rintro _ wy ⟨rfl, hE⟩; replace hF := hF.exts hE; clear hE; refine Back.mk ?_) | (refine (hzl _ (Fr.gi hF (by repeat (first | exact memH | apply memT)))).mono ?_; rintro _ wy ⟨y, rfl, hy, hE, hyn⟩; replace hF := Fr.addLI (hF.exts hE) hy; clear hE hyn hy; refine Back.mk ?_) | (refine (gput_put _ g m r c l (p1, p2) y z (hF.gr (by repeat (first | exact memH | apply memT)) (by repeat (first | exact memH | apply memT)) (by repeat (first | exact memH | apply memT))) (Fr.li hF (by repeat (first | exact memH | apply memT))) (hfew _ _ (Fr.li hF (by repeat (first | exact memH | apply memT)))) hz).mono ?_; rintro _ wy ⟨rfl, hE, hG⟩; replace hF := Fr.addGv (Fr.callMp (Fr.swapD hF) hE (.inr rfl) (nfC nf_li (nfC (nf_cb hgm) (nfC nf_gv (nfC nf_gi nfN)))) hG.mp) hG.vals; clear hE hG; refine Back.mk ?_)) | (apply TL.ev; (case hd => rfl); (case h => (first | exact ev_simple rfl | (apply Ev.isBin; first | exact ev_eqlP rfl rfl rfl) | (apply Ev.isLoad; first | exact ev_loadAFr hF rfl (by refine ⟨?_, ?_⟩; (focus (repeat (first | exact InV.head | apply InV.tail))); rfl) | exact ev_loadCb hF rfl (by repeat (first | exact memH | apply memT)) rfl) | exact ev_fieldAddr rfl | exact ev_buildX rfl rfl | exact ev_nilCheck rfl | exact ev_mlookOkI hF (y := (p1, p2)) rfl rfl (by repeat (first | exact memH | apply memT)) hb))) | (refine TL.storeAFr hF rfl rfl rfl rfl (by refine ⟨?_, ?_⟩; (focus (repeat (first | apply SetV.head | apply SetV.tail))); rfl) rfl ?_; clear hF; intro ws hF) | (refine TL.boxAFr hF (d := 7) (cs := [.bool xn, .slice xA xk xc]) rfl rfl ?_; clear hF; intro w7 b7 hF) | (refine TL.allocFr hF (d := 9) rfl rfl ?_; clear hF; intro w9 b9 hF) | (refine TL.allocFr hF (d := 10) rfl rfl ?_; clear hF; intro w10 b10 hF)) | (refine TF.is ?_; first | refine TF.nil ?_ | refine TF.e rfl ?_ | refine TF.alt ?_ ?_ | (refine TF.pick rfl ?_; first | (apply TFo.ev; (case hd => rfl); (case h => (intro wh hF; first | exact ev_simple rfl | (apply Ev.isLoad; first | exact ev_loadAFr hF rfl (by refine ⟨?_, ?_⟩; (focus (repeat (first | exact InV.head | apply InV.tail))); rfl) | exact ev_loadCb hF rfl (by repeat (first | exact memH | apply memT)) rfl) | exact ev_fieldAddr rfl | exact ev_nilCheck rfl))))) | (refine T.is ?_; first | refine T.seq ?_ | refine T.region ?_ | refine T.cond_f rfl ?_ | refine T.ret ?_ | refine T.skip ?_ | (refine T.regionFr hF 4 12 (.s 0 (.s 1 (.s 2 (.s 3 (.s 4 (.alt (.e 5 (.s 6 (.s 7 (.s 8 (.e 9 (.e 10 (.s 11 .nil))))))) (.e 9 (.e 5 (.s 6 (.s 7 (.s 8 (.e 10 (.s 11 .nil))))))))))))) mixed (by kernel_rfl) ?_; clear hF; intro wr hF) | (refine T.regionFr hF 9 4 (.s 0 (.s 1 (.s 2 (.e 3 (.e 4 .nil))))) mixed (by kernel_rfl) ?_; clear hF; intro wr hF)) | (refine G.is ?_; first | refine G.next ?_ | refine G.only ?_ | refine G.treeEnd rfl ?_ | refine G.tree rfl (by first | exact hF | exact hF.weak (List.sublist_append_right _ _) (by repeat (first | exact allR | apply allT)) | exact hF.weak (by repeat (first | exact List.Sublist.refl _ | apply List.Sublist.cons)) (by repeat (first | exact allR | apply allT)) | exact hF.weak (by repeat (first | exact List.Sublist.refl _ | apply List.Sublist.cons)) (by repeat (first | exact allN | refine allH (by repeat (first | exact memH | apply memT)) ?_))) ?_) | refine TL.nil ?_)
    all_goals exact G.ret1 rfl rfl ⟨y, Fr.li hF (by repeat (first | exact memH | apply memT)), rfl, hF.exs, hF.gr (by repeat (first | exact memH | apply memT)) (by repeat (first | exact memH | apply memT)) (by repeat (first | exact memH | apply memT))⟩
set_option maxHeartbeats 800000 in
theorem gset_zero (w : World) (g m r c : Nat) (l : GL) (p1 p2 : Int) (x : IV) (hG : Gr w.heap g m r c l) (hp : (0 ≤ p1 ∧ p1 < (r : Int)) ∧ (0 ≤ p2 ∧ p2 < (c : Int))) (hx : GI w.heap x) (hxn : x.m.n ≤ 1099511627776) (hz : ival x = 0) :
    Cl Try.prog 16 #[.pointer (some ⟨g, 0, none⟩), .int .i64 p1, .int .i64 p2, ivA x] w (RetW w g m r c (del l (p1, p2)) (.int .i64 0)) := by
  have hF := Gr.frD hG (Fr.mt (Fr.refS w fun k => k = m) (dpGI x) (by unfold dpGI; exact hx))
  have hgm := hG.ne
  clear hG
  have h1 := fun w1 => in_t w1 p1 r hp.1
  have h2 := fun w1 => in_t w1 p2 c hp.2
  have hsg := fun w1 (g1 : GI w1.heap x) => zsign_ok w1 x g1 (by omega)
  obtain ⟨b, hb⟩ : ∃ b, (lkp l (p1, p2)).isSome = b := ⟨_, rfl⟩
  have hv : val x.m.l = 0 := by
    have : (ival x).natAbs = val x.m.l := (by unfold ival; exact sgn_abs ..)
    rw [← this, hz]; rfl
  have hbig : ¬ big x := by unfold big; rw [hv]; unfold bl; rw [if_pos rfl]; omega
  have hlong := fun w1 (g1 : GI w1.heap x) => long_ok w1 x g1 (by omega) false ⟨fun h => (by cases h), fun h => absurd h hbig⟩
  have hzl := fun w1 (g1 : GI w1.heap x) => zleast_ok w1 x g1 (by omega)
  have hfew : ∀ (H : Array Obj) y, LI H (ival x) y → y.m.n ≤ 16384 := fun H y h => h.few hbig
  rw [hz] at hsg hzl hfew
  have hs0 : sig 0 = 0 := rfl
  rw [hs0] at hsg
  clear hp hx hbig hv hz hs0
  obtain ⟨xn, ⟨xA, xk, xc, xl⟩⟩ := x
  refine enter Try.func16 rfl rfl rfl ?_
  cases b
  · repeat' (first | (refine TL.isOp ?_; first | (refine TL.isG ?_; first | refine TL.grun rfl rfl rfl ?_ | refine TL.gskip rfl rfl rfl rfl ?_) | (refine TL.isCall ?_; refine TL.call rfl rfl ?_; first | (refine (h1 _).mono ?_; rintro _ wy ⟨rfl, hE⟩; replace hF := hF.exts hE; clear hE; refine Back.mk ?_) | (refine (h2 _).mono ?_; rintro _ wy ⟨rfl, hE⟩; replace hF := hF.exts hE; clear hE; refine Back.mk ?_) | (refine (hlong _ (Fr.gi hF (by repeat (first | exact memH | apply memT)))).mono ?_; rintro _ wy ⟨rfl, hE⟩; replace hF := hF.exts hE; clear hE; refine Back.mk ?_) | (refine (hsg _ (Fr.gi hF (by repeat (first | exact memH | apply memT)))).mono ?_; rintro _ wy ⟨rfl, hE⟩; replace hF := hF.exts hE; clear hE; refine Back.mk ?_) | (refine (hzl _ (Fr.gi hF (by repeat (first | exact memH | apply memT)))).mono ?_; rintro _ wy ⟨y, rfl, hy, hE, hyn⟩; replace hF := Fr.addLI (hF.exts hE) hy; clear hE hyn hy; refine Back.mk ?_) | (refine (gput_zero _ g m r c l (p1, p2) y (hF.gr (by repeat (first | exact memH | apply memT)) (by repeat (first | exact memH | apply memT)) (by repeat (first | exact memH | apply memT))) (Fr.li hF (by repeat (first | exact memH | apply memT))) (hfew _ _ (Fr.li hF (by repeat (first | exact memH | apply memT))))).mono ?_; rintro _ wy ⟨rfl, hE, hG⟩; replace hF := Fr.addGv (Fr.callMp (Fr.swapD hF) hE (.inr rfl) (nfC nf_li (nfC (nf_cb hgm) (nfC nf_gv (nfC nf_gi nfN)))) hG.mp) hG.vals; clear hE hG; refine Back.mk ?_)) | (refine TL.isBin ?_; refine TL.cmpG rfl rfl rfl rfl (fun hc => ?_) (fun hc => ?_) <;> (try (first | (exfalso; omega) | exact absurd rfl hc))) | (apply TL.ev; (case hd => rfl); (case h => (first | exact ev_simple rfl | (apply Ev.isBin; first | exact ev_eqlP rfl rfl rfl) | (apply Ev.isLoad; first | exact ev_loadAFr hF rfl (by refine ⟨?_, ?_⟩; (focus (repeat (first | exact InV.head | apply InV.tail))); rfl) | exact ev_loadCb hF rfl (by repeat (first | exact memH | apply memT)) rfl) | exact ev_fieldAddr rfl | exact ev_buildX rfl rfl | exact ev_nilCheck rfl | exact ev_mlookOkI hF (y := (p1, p2)) rfl rfl (by repeat (first | exact memH | apply memT)) hb))) | (refine TL.storeAFr hF rfl rfl rfl rfl (by refine ⟨?_, ?_⟩; (focus (repeat (first | apply SetV.head | apply SetV.tail))); rfl) rfl ?_; clear hF; intro ws hF) | (refine TL.boxAFr hF (d := 7) (cs := [.bool xn, .slice xA xk xc]) rfl rfl ?_; clear hF; intro w7 b7 hF) | (refine TL.allocFr hF (d := 9) rfl rfl ?_; clear hF; intro w9 b9 hF) | (refine TL.allocFr hF (d := 10) rfl rfl ?_; clear hF; intro w10 b10 hF)) | (refine TF.is ?_; first | refine TF.nil ?_ | refine TF.e rfl ?_ | refine TF.alt ?_ ?_ | (refine TF.pick rfl ?_; first | (apply TFo.ev; (case hd => rfl); (case h => (intro wh hF; first | exact ev_simple rfl | (apply Ev.isLoad; first | exact ev_loadAFr hF rfl (by refine ⟨?_, ?_⟩; (focus (repeat (first | exact InV.head | apply InV.tail))); rfl) | exact ev_loadCb hF rfl (by repeat (first | exact memH | apply memT)) rfl) | exact ev_fieldAddr rfl | exact ev_nilCheck rfl))))) | (refine T.is ?_; first | refine T.seq ?_ | refine T.region ?_ | refine T.cond_f rfl ?_ | refine T.ret ?_ | refine T.skip ?_ | (refine T.regionFr hF 4 12 (.s 0 (.s 1 (.s 2 (.s 3 (.s 4 (.alt (.e 5 (.s 6 (.s 7 (.s 8 (.e 9 (.e 10 (.s 11 .nil))))))) (.e 9 (.e 5 (.s 6 (.s 7 (.s 8 (.e 10 (.s 11 .nil))))))))))))) mixed (by kernel_rfl) ?_; clear hF; intro wr hF) | (refine T.regionFr hF 9 4 (.s 0 (.s 1 (.s 2 (.e 3 (.e 4 .nil))))) mixed (by kernel_rfl) ?_; clear hF; intro wr hF)) | (refine G.is ?_; first | refine G.next ?_ | refine G.only ?_ | refine G.treeEnd rfl ?_ | refine G.tree rfl (by first | exact hF | exact hF.weak (List.sublist_append_right _ _) (by repeat (first | exact allR | apply allT)) | exact hF.weak (by repeat (first | exact List.Sublist.refl _ | apply List.Sublist.cons)) (by repeat (first | exact allR | apply allT)) | exact hF.weak (by repeat (first | exact List.Sublist.refl _ | apply List.Sublist.cons)) (by repeat (first | exact allN | refine allH (by repeat (first | exact memH | apply memT)) ?_))) ?_) | refine TL.nil ?_)
    all_goals exact G.ret1 rfl rfl ⟨rfl, hF.exs, hF.gr (by repeat (first | exact memH | apply memT)) (by repeat (first | exact memH | apply memT)) (by repeat (first | exact memH | apply memT))⟩
  · repeat' (first | (refine TL.isOp ?_; first | (refine TL.isG ?_; first | refine TL.grun rfl rfl rfl ?_ | refine TL.gskip rfl rfl rfl rfl ?_) | (refine TL.isCall ?_; refine TL.call rfl rfl ?_; first | (refine (h1 _).mono ?_; rintro _ wy ⟨rfl, hE⟩; replace hF := hF.exts hE; clear hE; refine Back.mk ?_) | (refine (h2 _).mono ?_; rintro _ wy ⟨rfl, hE⟩; replace hF := hF.exts hE; clear hE; refine Back.mk ?_) | (refine (hlong _ (Fr.gi hF (by repeat (first | exact memH | apply memT)))).mono ?_; rintro _ wy ⟨rfl, hE⟩; replace hF := hF.exts hE; clear hE; refine Back.mk ?_) | (refine (hzl _ (Fr.gi hF (by repeat (first | exact memH | apply memT)))).mono ?_; rintro _ wy ⟨y, rfl, hy, hE, hyn⟩; replace hF := Fr.addLI (hF.exts hE) hy; clear hE hyn hy; refine Back.mk ?_) | (refine (gput_zero _ g m r c l (p1, p2) y (hF.gr (by repeat (first | exact memH | apply memT)) (by repeat (first | exact memH | apply memT)) (by repeat (first | exact memH | apply memT))) (Fr.li hF (by repeat (first | exact memH | apply memT))) (hfew _ _ (Fr.li hF (by repeat (first | exact memH | apply memT))))).mono ?_; rintro _ wy ⟨rfl, hE, hG⟩; replace hF := Fr.addGv (Fr.callMp (Fr.swapD hF) hE (.inr rfl) (nfC nf_li (nfC (nf_cb hgm) (nfC nf_gv (nfC nf_gi nfN)))) hG.mp) hG.vals; clear hE hG; refine Back.mk ?_)) | (apply TL.ev; (case hd => rfl); (case h => (first | exact ev_simple rfl | (apply Ev.isBin; first | exact ev_eqlP rfl rfl rfl) | (apply Ev.isLoad; first | exact ev_loadAFr hF rfl (by refine ⟨?_, ?_⟩; (focus (repeat (first | exact InV.head | apply InV.tail))); rfl) | exact ev_loadCb hF rfl (by repeat (first | exact memH | apply memT)) rfl) | exact ev_fieldAddr rfl | exact ev_buildX rfl rfl | exact ev_nilCheck rfl | exact ev_mlookOkI hF (y := (p1, p2)) rfl rfl (by repeat (first | exact memH | apply memT)) hb))) | (refine TL.storeAFr hF rfl rfl rfl rfl (by refine ⟨?_, ?_⟩; (focus (repeat (first | apply SetV.head | apply SetV.tail))); rfl) rfl ?_; clear hF; intro ws hF) | (refine TL.boxAFr hF (d := 7) (cs := [.bool xn, .slice xA xk xc]) rfl rfl ?_; clear hF; intro w7 b7 hF) | (refine TL.allocFr hF (d := 9) rfl rfl ?_; clear hF; intro w9 b9 hF) | (refine TL.allocFr hF (d := 10) rfl rfl ?_; clear hF; intro w10 b10 hF)) | (refine TF.is ?_; first | refine TF.nil ?_ | refine TF.e rfl ?_ | refine TF.alt ?_ ?_ | (refine TF.pick rfl ?_; first | (apply TFo.ev; (case hd => rfl); (case h => (intro wh hF; first | exact ev_simple rfl | (apply Ev.isLoad; first | exact ev_loadAFr hF rfl (by refine ⟨?_, ?_⟩; (focus (repeat (first | exact InV.head | apply InV.tail))); rfl) | exact ev_loadCb hF rfl (by repeat (first | exact memH | apply memT)) rfl) | exact ev_fieldAddr rfl | exact ev_nilCheck rfl))))) | (refine T.is ?_; first | refine T.seq ?_ | refine T.region ?_ | refine T.cond_f rfl ?_ | refine T.ret ?_ | refine T.skip ?_ | (refine T.regionFr hF 4 12 (.s 0 (.s 1 (.s 2 (.s 3 (.s 4 (.alt (.e 5 (.s 6 (.s 7 (.s 8 (.e 9 (.e 10 (.s 11 .nil))))))) (.e 9 (.e 5 (.s 6 (.s 7 (.s 8 (.e 10 (.s 11 .nil))))))))))))) mixed (by kernel_rfl) ?_; clear hF; intro wr hF) | (refine T.regionFr hF 9 4 (.s 0 (.s 1 (.s 2 (.e 3 (.e 4 .nil))))) mixed (by kernel_rfl) ?_; clear hF; intro wr hF)) | (refine G.is ?_; first | refine G.next ?_ | refine G.only ?_ | refine G.treeEnd rfl ?_ | refine G.tree rfl (by first | exact hF | exact hF.weak (List.sublist_append_right _ _) (by repeat (first | exact allR | apply allT)) | exact hF.weak (by repeat (first | exact List.Sublist.refl _ | apply List.Sublist.cons)) (by repeat (first | exact allR | apply allT)) | exact hF.weak (by repeat (first | exact List.Sublist.refl _ | apply List.Sublist.cons)) (by repeat (first | exact allN | refine allH (by repeat (first | exact memH | apply memT)) ?_))) ?_) | refine TL.nil ?_)
    all_goals exact G.ret1 rfl rfl ⟨rfl, hF.exs, hF.gr (by repeat (first | exact memH | apply memT)) (by repeat (first | exact memH | apply memT)) (by repeat (first | exact memH | apply memT))⟩
end Go.Proofs.Ytlpheckjogphmaa

namespace Go.Eng
open Go Go.Proofs Go.NatM Go.RowKit Go.Proofs.Ytlpheckjogphmaa
/-- a new grid joins the facts -/
theorem Fr.addG {S : Nat → Prop} {w0 w w' : World} {L : List VB} {D : List DP} {g m r c : Nat} {l : GL} (hF : Fr w0 w L D S) (hE : Ext w w') (hg : w.heap.size ≤ g) (hm : w.heap.size ≤ m) (hG : Gr w'.heap g m r c l) : Fr w0 w' L (dpGr g m r c l :: D) S :=
  hF.addNew hE _ (by unfold dpGr; exact hG) fun k hk => by
    unfold dpGr at hk
    rcases hk with rfl | rfl
    · exact hg
    · exact hm
theorem Fr.grOf {S : Nat → Prop} {w0 w : World} {L : List VB} {D : List DP} {g m r c : Nat} {l : GL} (hF : Fr w0 w L D S) (h : dpGr g m r c l ∈ D) : Gr w.heap g m r c l := by
  have := hF.data _ h
  unfold dpGr at this; exact this
theorem Fr.callG {S : Nat → Prop} {w0 w w' : World} {L : List VB} {D : List DP} {g m r c : Nat} {l l' : GL} (hF : Fr w0 w L (dpGr g m r c l :: D) S) (hE : Exs (fun k => k = m) w w') (hb : w0.heap.size ≤ m ∨ S m) (hfree : ∀ x ∈ D, ¬ x.fp m) (hG : Gr w'.heap g m r c l') : Fr w0 w' L (dpGr g m r c l' :: D) S := by
  have hg := hF.grOf (List.mem_cons_self ..)
  obtain ⟨es, k, hm, _⟩ := hg.mp
  refine hF.callX hE hm rfl hb hfree (by unfold dpGr; exact hG) fun _ h => ?_
  unfold dpGr at h ⊢; exact h
end Go.Eng
namespace Go.Proofs.Ytlpheckjogphmaa
open Go Go.Eng Go.Proofs Go.NatM Go.RowKit

theorem five_gi {H : Array Obj} {A : Option Addr} (h : Sl u64v H H.size A 1 1 [5]) : GI H ⟨false, ⟨A, 1, 1, [5]⟩⟩ := ⟨h, U64.one (by omega)⟩
theorem five_small (A : Option Addr) : ¬ GLarge [] (1, 2) ⟨false, ⟨A, 1, 1, [5]⟩⟩ := by
  rintro (h | ⟨_, _, h⟩)
  · unfold big at h
    have e : val [5] = 5 := rfl
    have e2 : bl 5 = 3 := by decide
    dsimp only at h
    rw [e, e2] at h
    omega
  · exact absurd h (by decide)
theorem five_ne (A : Option Addr) : ival ⟨false, ⟨A, 1, 1, [5]⟩⟩ ≠ 0 := by rw [show ival ⟨false, ⟨A, 1, 1, [5]⟩⟩ = 5 from rfl]; decide
theorem at_one (y : IV) : at0 (ups [] (1, 2) y) (1, 2) = y := by simp [at0, ups, lkp]
theorem dig_five : dig (Int.natAbs 5) = [5] := by rw [show Int.natAbs 5 = 5 from rfl]; rw [dig_pos (by decide)]; show 5 :: dig 0 = [5]; rw [dig_zero]
theorem five_val (A : Option Addr) : ival ⟨false, ⟨A, 1, 1, [5]⟩⟩ = 5 := rfl
set_option maxHeartbeats 800000 in
theorem awake_ok (w : World) : Cl Try.prog 10 #[] w (YesM w) := by
  refine enter Try.func10 rfl rfl rfl ?_
  have hF := Fr.refl w
  repeat' (first | (refine TL.isOp ?_; first | (refine TL.isG ?_; first | refine TL.grun rfl rfl rfl ?_) | (refine TL.isCall ?_; refine TL.call rfl rfl ?_; first | (refine (gnew_ok _ 2 3 (by omega)).mono ?_; rintro _ wy ⟨_, ⟨g, m, rfl, hE, hg, hm, hG⟩, _, hv, rfl⟩; cases hv; replace hF := Fr.addG hF hE hg hm hG; clear hE hG hg; refine Back.mk ?_) | (refine (gset_put _ g m 2 3 [] 1 2 ⟨false, ⟨some ⟨b17, 0, none⟩, 1, 1, [5]⟩⟩ (hF.grOf (by repeat (first | exact memH | apply memT))) (by omega) (five_gi (Fr.sl hF (by repeat (first | exact memH | apply memT)))) (show 1 ≤ 1099511627776 by omega) (five_small _) (five_ne _)).mono ?_; rintro _ wy ⟨y, hy, rfl, hE, hG⟩; replace hF := Fr.callG hF hE (.inl hm) (nfC nf_sl nfN) hG; clear hE hG; rw [five_val] at hy; refine Back.mk ?_) | (refine (gget_ok _ g m 2 3 (ups [] (1, 2) y) 1 2 (hF.grOf (by repeat (first | exact memH | apply memT))) (by omega)).mono ?_; rintro _ wy ⟨v, rfl, hv, hE, hvn⟩; rw [at_one, hy.val] at hv; have hvl := hv.d; replace hF := Fr.addLI (hF.exts hE) hv; clear hE hv; refine Back.mk ?_) | (refine (glen_ok _ g m 2 3 (ups [] (1, 2) y) (hF.grOf (by repeat (first | exact memH | apply memT)))).mono ?_; rintro _ wy ⟨rfl, hE⟩; replace hF := hF.exts hE; clear hE; refine Back.mk ?_) | (refine (same_t _ _ _ v.m.A (some ⟨b33, 0, none⟩) v.m.n v.m.c 1 1 v.m.l [5] (Fr.li hF (by repeat (first | exact memH | apply memT))).g.s (Fr.sl hF (by repeat (first | exact memH | apply memT))) (by omega) (by omega) (hvl.trans dig_five)).cl.mono ?_; rintro _ wy ⟨rfl, hE⟩; replace hF := hF.exts hE.ext; clear hE; refine Back.mk ?_)) | (refine TL.isBin ?_; refine TL.cmpG rfl rfl rfl rfl (fun hc => ?_) (fun hc => ?_) <;> (try (first | (exfalso; omega) | exact absurd rfl hc))) | (apply TL.ev; (case hd => rfl); (case h => (first | exact ev_simple rfl | (apply Ev.isBin; first | exact ev_eqlP rfl rfl rfl) | (apply Ev.isLoad; first | exact ev_loadFr hF rfl (by refine ⟨?_, ?_⟩; (focus (repeat (first | exact InV.head | apply InV.tail))); rfl)) | exact ev_fieldAddr rfl | exact ev_buildX rfl rfl))) | (refine TL.storeAFr hF rfl rfl rfl rfl (by refine ⟨?_, ?_⟩; (focus (repeat (first | apply SetV.head | apply SetV.tail))); rfl) rfl ?_; clear hF; intro ws hF) | (refine TL.allocFr hF (d := 3) rfl rfl ?_; clear hF; intro w3 b3 hF) | (refine TL.build1U (d := 17) rfl rfl ?_; intro w17 b17 eb hB hE hz; have hSn := (hB.slN (n := 1) (c := 1) rfl (Nat.le_refl _) hB.lt).size; replace hF := Fr.swapD (Fr.addSl (hF.exts hE) hSn); clear hB hE hz hSn eb) | (refine TL.build1U (d := 33) rfl rfl ?_; intro w33 b33 eb hB hE hz; have hSn := (hB.slN (n := 1) (c := 1) rfl (Nat.le_refl _) hB.lt).size; replace hF := Fr.addSl (hF.exts hE) hSn; clear hB hE hz hSn eb)) | (refine T.is ?_; first | refine T.seq ?_ | refine T.region ?_ | refine T.cond_f rfl ?_ | refine T.ret ?_ | refine T.skip ?_) | (refine G.is ?_; first | refine G.next ?_) | refine TL.nil ?_)
  all_goals exact G.ret1 rfl rfl ⟨rfl, hF.ext⟩
end Go.Proofs.Ytlpheckjogphmaa

namespace Go.Proofs.Ytlpheckjogphmaa
open Go Go.Eng Go.Proofs Go.NatM Go.RowKit

end Go.Proofs.Ytlpheckjogphmaa

namespace Go.Eng
open Go
section
variable {P : Program} {σ : Store} {H : Array Obj} {d : Option Tmp} {t : TypeId} {pos : String} {af : Array Edge} {gd : Option (Nat × Bool)}
end
end Go.Eng
namespace Go.Proofs.Ytlpheckjogphmaa
open Go Go.Eng Go.Proofs Go.NatM Go.RowKit

instance : UFunc Try.prog 36 := ⟨_, _, _, Try.underlying36⟩
theorem vr_cx {B b : Nat} {t : TypeId} {cs : List Value} {W W' : World} (h : Vr W.heap b t cs) (hc : Cx B W W') : Vr W'.heap b t cs := by
  unfold Vr at h ⊢
  exact (hc.cells _ _ h rfl).trans h
end Go.Proofs.Ytlpheckjogphmaa

namespace Go.Eng
open Go Go.RowKit

theorem put_mid (a b z : List Value) (h : b.length ≤ z.length) : putV (a ++ z) a.length b = a ++ b ++ z.drop b.length := by
  apply List.ext_getElem?
  intro j
  rw [putV_get]
  simp only [List.length_append, List.append_assoc]
  rcases Nat.lt_or_ge j a.length with h1 | h1
  · rw [if_neg (by omega), List.getElem?_append_left h1, List.getElem?_append_left h1]
  · rw [List.getElem?_append_right h1, List.getElem?_append_right h1]
    rcases Nat.lt_or_ge (j - a.length) b.length with h2 | h2
    · rw [if_pos (by omega), List.getElem?_append_left h2]
    · rw [if_neg (by omega), List.getElem?_append_right h2, List.getElem?_drop]
      congr 1
      omega
theorem fill_all {α : Type} {f : α → List Value} {sz : Nat} : ∀ (us : List α) (i : Nat) (pre rest : List Value), (∀ u ∈ us, (f u).length = sz) → pre.length = i * sz → rest.length = us.length * sz →
    Instr.fill (fun j => some (j * sz, sz)) (pre ++ rest).toArray ((us.zipIdx i).map fun p => (p.2, Value.agg (f p.1).toArray)) = some (pre ++ us.flatMap f).toArray
  | [], i, pre, rest, _, _, hr => by
    have : rest = [] := List.eq_nil_of_length_eq_zero (by simpa using hr)
    subst this
    simp [Instr.fill]
  | u :: us, i, pre, rest, hw, hp, hr => by
    have hu := hw u (List.mem_cons_self ..)
    rw [List.length_cons, Nat.add_mul, Nat.one_mul] at hr
    have p1 : Array.foldl (fun (cs : Array Value) (p : Value × Nat) => cs.setIfInBounds (i * sz + p.2) p.1) (pre ++ rest).toArray (f u).toArray.zipIdx = (pre ++ f u ++ rest.drop sz).toArray := by
      apply Array.ext'
      have := foldl_put (f u) 0 (i * sz) (pre ++ rest).toArray
      rw [← Array.foldl_toList, Array.toList_zipIdx]
      simp only [Nat.add_zero] at this
      rw [this, ← hp]
      simp only [List.toList_toArray]
      rw [put_mid _ _ _ (by omega), hu]
    have e3 : (decide ((Value.agg (f u).toArray).cells.size ≠ sz) || decide (i * sz + (Value.agg (f u).toArray).cells.size > (pre ++ rest).toArray.size)) = false := by
      simp [Value.cells, hu]; omega
    rw [List.zipIdx_cons, List.map_cons]
    unfold Instr.fill
    simp only [e3]
    rw [show (Value.agg (f u).toArray).cells = (f u).toArray from rfl, p1]
    have ih := fill_all us (i + 1) (pre ++ f u) (rest.drop sz) (fun v hv => hw v (List.mem_cons_of_mem _ hv)) (by rw [List.length_append, hp, hu, Nat.add_mul, Nat.one_mul]) (by rw [List.length_drop]; omega)
    simp only [List.append_assoc, List.flatMap_cons] at ih ⊢
    simpa using ih
theorem rep_zeros {z : List Value} {sz : Nat} (hz : z.length = sz) (hpos : 0 < sz) (n : Nat) : ((Array.range (n * sz)).map (fun q => z.toArray[q % z.toArray.size]!)) = ((List.replicate n z).flatMap id).toArray := by
  have hf := made_flat (f := fun _ : Unit => z) (u := ()) (c := n) hpos rfl hz
  unfold madeCells at hf
  apply Array.ext'
  rw [hf]
  simp only [List.flatMap, List.map_replicate, id]
section
variable {P : Program} {N : Fm} {Q : Exit → Act → World → Prop} {σ : Store} {S : Nat → Prop} {w0 w : World} {L : List VB} {D : List DP} {ops : Array Oper} {d : Nat} {t : TypeId} {pos : String} {af : Array Edge} {rest : List Oper}
/-- a literal of structs -/
theorem TL.buildXs (hF : Fr w0 w L D S) {α : Type} {f : α → List Value} (us : List α) (xs : List Operand) {ty e : TypeId} [hT : USlice P ty e] {z : List Value} {sz b1 : Nat} [hS : USize P e (.agg z.toArray) sz b1] {n : Nat} {parts : Array (Nat × Operand)} (hp : parts = (xs.zipIdx.map fun p => (p.2, p.1)).toArray) (hn : us.length = n) (hx : looks σ xs = some (us.map fun u => Value.agg (f u).toArray)) (hd : Nat.blt d N.n = true)
    (hw : ∀ u ∈ us, (f u).length = sz) (hzl : Nat.beq z.length sz = true) (h0 : Nat.blt 0 sz = true) (hn0 : 0 < n) (hm : n * sz ≤ 1000000)
    (K : ∀ w' b, Fr w0 w' L D S → Ext w w' → w.heap.size ≤ b → Sm sz f w'.heap w'.heap.size (some ⟨b, 0, none⟩) n n us → TL P N .seq ops Q rest ((d, .slice (some ⟨b, 0, none⟩) n n) :: σ) w') :
    TL P N .seq ops Q (⟨some d, .buildSlice ty n parts, t, pos, af, none⟩ :: rest) σ w := by
  subst hp hn
  obtain ⟨i, hi, hz0, hsz, hby⟩ := hS.info
  have hzlen := Nat.eq_of_beq_eq_true hzl
  have hpos : 0 < sz := by simpa [Nat.blt_eq] using h0
  have hfl : ((List.replicate us.length z).flatMap id).length = us.length * sz := by rw [flatMap_len (k := sz) (fun x hx => by rw [(List.mem_replicate.1 hx).2]; exact hzlen)]; simp
  have hn1 : 0 < us.length * sz := Nat.mul_pos hn0 hpos
  have hfill : Instr.fill (fun j => some (j * i.size, i.size)) ((Array.range (us.length * i.size)).map (fun q => z.toArray[q % z.toArray.size]!)) (us.zipIdx.map fun p => (p.2, Value.agg (f p.1).toArray)) = some (us.flatMap f).toArray := by
    rw [hsz, rep_zeros hzlen hpos]
    have := fill_all us 0 [] ((List.replicate us.length z).flatMap id) hw (by simp) hfl
    simpa using this
  have hrun : (Instr.buildSlice ty us.length (us.zipIdx.map fun p => (p.2, Value.agg (f p.1).toArray)).toArray).run P w = .ok (.slice (some ⟨w.heap.size, 0, none⟩) us.length us.length) (w.alloc (.cells (us.flatMap f).toArray e)) := by
    refine run_buildSlice w ty e us.length _ (us.flatMap f).toArray i (.agg z.toArray) hT.out hi hz0 (by rw [hsz]; omega) (by rw [hsz]; omega) ?_
    simp only [Value.cells]
    exact hfill
  have hE := ext_alloc w (.cells (us.flatMap f).toArray e)
  have hV : Vr (w.alloc (.cells (us.flatMap f).toArray e)).heap w.heap.size e (us.flatMap f ++ []) := by unfold Vr; rw [heap_alloc]; simp
  refine TL.op (w' := w.alloc (.cells (us.flatMap f).toArray e)) (fun ρ hρ => ?_) hd (K _ _ (hF.exts hE) hE (Nat.le_refl _) (vr_sm hpos hw hV rfl (Nat.le_refl _) hV.lt))
  have h1 := hρ.list _ _ hx
  have h2 : ((xs.zipIdx.map fun p => (p.2, p.1)).toArray.map fun (p : Nat × Operand) => (p.1, ρ p.2)) = (us.zipIdx.map fun p => (p.2, Value.agg (f p.1).toArray)).toArray := by
    rw [List.map_toArray, List.map_map]
    congr 1
    have e1 : ∀ (ys : List Operand) (k : Nat), (ys.zipIdx k).map ((fun (p : Nat × Operand) => (p.1, ρ p.2)) ∘ fun p => (p.2, p.1)) = ((ys.map ρ).zipIdx k).map fun p => (p.2, p.1) := by
      intro ys
      induction ys with
      | nil => intro k; rfl
      | cons y ys ih => intro k; simp [List.zipIdx_cons]; exact ih (k + 1)
    have e2 : ∀ (vs : List α) (k : Nat), ((vs.map fun u => Value.agg (f u).toArray).zipIdx k).map (fun p => (p.2, p.1)) = (vs.zipIdx k).map fun p => (p.2, Value.agg (f p.1).toArray) := by
      intro vs
      induction vs with
      | nil => intro k; rfl
      | cons y ys ih => intro k; simp [List.zipIdx_cons]; exact ih (k + 1)
    rw [e1, h1, e2]
  simp only [execOp]
  rw [h2]
  simp [hrun]
end
/-- a list of structs, as a fact -/
def dpSmG {α : Type} (k : Nat) (f : α → List Value) (A : Option Addr) (n c : Nat) (l : List α) : DP := ⟨fun H => Sm k f H H.size A n c l, fpA A n, fun _ _ h hk => h.fp_lt hk, fun _ _ hd h => (Sm.de (fun _ h => h) hd h).size⟩
theorem Fr.smG {S : Nat → Prop} {w0 w : World} {L : List VB} {D : List DP} (h : Fr w0 w L D S) {α : Type} {k : Nat} {f : α → List Value} {A : Option Addr} {n c : Nat} {l : List α} (hm : dpSmG k f A n c l ∈ D) : Sm k f w.heap w.heap.size A n c l := h.data _ hm
attribute [irreducible] dpSmG

end Go.Eng

namespace Go.Eng
open Go Go.RowKit

section
variable {P : Program} {N : Fm} {Q : Exit → Act → World → Prop} {σ : Store} {w : World} {ops : Array Oper} {d : Nat} {t : TypeId} {pos : String} {af : Array Edge} {rest : List Oper}
end
section
variable {P : Program} {σ : Store} {H : Array Obj} {d : Option Tmp} {t : TypeId} {pos : String} {af : Array Edge} {gd : Option (Nat × Bool)}
theorem subV_getElem : ∀ (n : Nat) (cs : List Value) (off : Nat) (r : List Value), subV cs off n = some r → r.length = n ∧ ∀ (q : Nat) v, r[q]? = some v → cs[off + q]? = some v
  | 0, cs, off, r, h => by
    simp [subV] at h
    subst h
    exact ⟨rfl, fun q v hq => by simp at hq⟩
  | n + 1, cs, off, r, h => by
    unfold subV at h
    cases h1 : nthV cs off with
    | none => rw [h1] at h; cases h
    | some u =>
      rw [h1] at h
      cases h2 : subV cs (off + 1) n with
      | none => rw [h2] at h; cases h
      | some l =>
        rw [h2] at h
        cases h
        obtain ⟨i1, i2⟩ := subV_getElem n cs (off + 1) l h2
        refine ⟨by simp [i1], fun q v hq => ?_⟩
        cases q with
        | zero =>
          simp at hq
          subst hq
          rw [nthV_eq] at h1
          simpa using h1
        | succ q =>
          rw [List.getElem?_cons_succ] at hq
          have := i2 q v hq
          rwa [show off + 1 + q = off + (q + 1) by omega] at this
/-- a field of many cells of an element -/
theorem ev_loadMS {x : Operand} {ty : TypeId} [hA : UAgg P ty] {z : Value} {sz' b1 : Nat} [hS : USize P ty z sz' b1] {sz off : Nat} {α : Type} {f : α → List Value} {B n c i : Nat} {A : Option Addr} {l : List α} {y : α} {cs : List Value}
    (hx : look σ x = some (.pointer (elemA A (i * sz + off)))) (hs : Sm sz f H B A n c l) (hy : l[i]? = some y) (hv : subV (f y) off sz' = some cs) : Ev P σ H ⟨d, .load ty x, t, pos, af, gd⟩ (.agg cs.toArray) := by
  unfold Ev
  intro ρ w hρ hH
  have hi := (List.getElem?_eq_some_iff.1 hy).1
  have hlen := hs.len
  obtain ⟨hl, hq⟩ := subV_getElem _ _ _ _ hv
  rcases hs.mem with h0 | ⟨b, o, rfl, _, hc⟩
  · omega
  · obtain ⟨fs, hfs⟩ := hA.out
    obtain ⟨ii, hii, _, hsz, _⟩ := hS.info
    have hr : w.rangeAt b (o + (i * sz + off)) cs := fun q v hv => by
      rw [cell_of_hcell, hH, Nat.add_assoc, Nat.add_assoc]
      exact hc i y hy _ v (hq q v hv)
    have := run_loadAt_mid (P := P) w b (o + (i * sz + off)) ty cs _ hr hfs rfl (by rw [hii]; simp [hsz, hl])
    have e : look σ x = some (.pointer (some ⟨b, o + (i * sz + off), none⟩)) := by rw [hx]; simp [elemA, add_mk]
    simp [execOp, hρ x _ e, this]
end
end Go.Eng

set_option linter.unusedSectionVars false
namespace Go.Eng
open Go Go.Proofs Go.NatM Go.RowKit Go.Proofs.Ytlpheckjogphmaa
/-- a place's cells -/
def plc (p : (Int × Int) × IV) : List Value := [.int .i64 p.1.1, .int .i64 p.1.2, .bool p.2.neg, .slice p.2.m.A p.2.m.n p.2.m.c]
theorem plc_no (l : GL) {zs : List Value} (h : zs.all noU64 = true) : (l.flatMap plc ++ zs).all noU64 = true := by
  rw [List.all_append, h, Bool.and_true, List.all_eq_true]
  intro v hv
  obtain ⟨p, _, hp⟩ := List.mem_flatMap.1 hv
  simp only [plc, List.mem_cons, List.not_mem_nil, or_false] at hp
  rcases hp with rfl | rfl | rfl | rfl <;> rfl
/-- where a list of places lies: nowhere, or at the head of a block (its number, the room, what stands behind) -/
abbrev PB := Option (Nat × Nat × List Value)
def slv (n : Nat) : PB → Value
  | none => .slice none 0 0
  | some (b, c, _) => .slice (some ⟨b, 0, none⟩) n c
def lvb (l : GL) : PB → List VB
  | none => []
  | some (b, _, zs) => [⟨b, 46, l.flatMap plc ++ zs⟩]
def PBok (l : GL) : PB → Prop
  | none => l = []
  | some (_, c, zs) => 0 < l.length ∧ l.length ≤ c ∧ zs.length = (c - l.length) * 4 ∧ zs.all noU64 = true
section
variable {S : Nat → Prop} {w0 w w' : World} {L : List VB} {D : List DP}
variable {K V : Type} [DecidableEq K] {f : K → Value} {g' : V → Value} {r b m g : Nat} {l done todo : List (K × V)}
theorem Fr.it_at (hF : Fr w0 w L D S) (h : dpIt f g' r b l done todo ∈ D) : ∃ c s, w.heap[r]? = some (.mapIter (some b) c s c) := by
  have := hF.data _ h
  unfold dpIt at this
  obtain ⟨es, c, E, T, _, _, h1, _⟩ := this
  exact ⟨c, _, h1⟩
theorem Fr.it_mp (hF : Fr w0 w L D S) (h : dpIt f g' r b l done todo ∈ D) {K2 V2 : Type} [DecidableEq K2] {f2 : K2 → Value} {g2 : V2 → Value} {l2 : List (K2 × V2)} (h2 : dpMp f2 g2 m l2 ∈ D) : m ≠ r := fun e => by
  obtain ⟨c, s, h1⟩ := hF.it_at h
  obtain ⟨es, k, h4, _⟩ := hF.mp h2
  rw [e, h1] at h4
  cases h4
theorem Fr.it_cb (hF : Fr w0 w L D S) (h : dpIt f g' r b l done todo ∈ D) {t : TypeId} {cs : List Value} (h2 : dpCb g t cs ∈ D) : g ≠ r := fun e => by
  obtain ⟨c, s, h1⟩ := hF.it_at h
  have h3 := hF.data _ h2
  unfold dpCb Vr at h3
  dsimp only at h3
  rw [e, h1] at h3
  cases h3
end
theorem nf_smG {α : Type} {k : Nat} {f : α → List Value} {A : Option Addr} {n c : Nat} {l : List α} {m : Nat} (h : ¬ fpA A n m) : ¬ (dpSmG k f A n c l).fp m := by unfold dpSmG; exact h
end Go.Eng
namespace Go.Proofs.Ytlpheckjogphmaa
open Go Go.Eng Go.Proofs Go.NatM Go.RowKit

/-- a list of places in a block of its own -/
def RetPl (w : World) (Q : GL → Prop) (e : Ending) (w' : World) : Prop := ∃ (l' : GL) (pb : PB), Q l' ∧ PBok l' pb ∧ e = .returned (slv l'.length pb) ∧ Fr w w' (lvb l' pb) []
/-- the row's places -/
def inRow (i : Int) (l : GL) : GL := l.filter fun p => decide (p.1.1 = i)
theorem drop_noV {zs : List Value} (h : zs.all noU64 = true) (n : Nat) : (zs.drop n).all noU64 = true := List.all_eq_true.2 fun v hv => List.all_eq_true.1 h v (List.mem_of_mem_drop hv)
theorem step_perm {α : Type} {l a b b' : List α} {p : α} (h : l.Perm (a ++ b)) (k : b.Perm (p :: b')) : l.Perm (a ++ [p] ++ b') := by
  refine h.trans ?_
  rw [List.append_assoc]
  exact k.append_left a
theorem step_mu {α : Type} {b b' : List α} {p : α} (k : b.Perm (p :: b')) : b'.length < b.length := by have := k.length_eq; simp at this; omega
end Go.Proofs.Ytlpheckjogphmaa

set_option linter.unusedSectionVars false
namespace Go.Eng
open Go Go.Proofs Go.NatM Go.RowKit Go.Proofs.Ytlpheckjogphmaa
section
variable {K V : Type} [DecidableEq K]
end
theorem mem_inRow {i : Int} {l : GL} {p : (Int × Int) × IV} : p ∈ inRow i l ↔ p ∈ l ∧ p.1.1 = i := by simp [inRow]
def slA : PB → Option Addr
  | none => none
  | some (b, _, _) => some ⟨b, 0, none⟩
def slC : PB → Nat
  | none => 0
  | some (_, c, _) => c
theorem slv_eq {l : GL} {pb : PB} (h : PBok l pb) : slv l.length pb = .slice (slA pb) l.length (slC pb) := by
  cases pb with
  | none => have : l = [] := h; rw [this]; rfl
  | some x => rfl
section
variable {S : Nat → Prop} {w0 w w' : World} {L : List VB} {D : List DP}
theorem plc_sm {l : GL} {pb : PB} (h : PBok l pb) (hF : Fr w w' (lvb l pb) []) : Sm 4 plc w'.heap w'.heap.size (slA pb) l.length (slC pb) l ∧ ∀ b, fpA (slA pb) l.length b → w.heap.size ≤ b := by
  cases pb with
  | none => have e : l = [] := h; subst e; exact ⟨⟨rfl, Nat.le_refl _, (by decide), fun _ h => (by cases h), .inl rfl⟩, fun b hb => absurd hb.1 (Nat.lt_irrefl _)⟩
  | some x =>
    obtain ⟨b, c, zs⟩ := x
    obtain ⟨h0, hc, hz, _⟩ := h
    have hV := hF.var (b := b) .head
    refine ⟨vr_sm (by decide) (fun _ _ => rfl) hV rfl hc hV.lt, fun k hk => ?_⟩
    obtain ⟨_, o, e⟩ := hk
    cases e
    exact ((hF.vars _ (List.mem_cons_self ..)).1).resolve_right id
theorem Fr.addSm' {α : Type} {k : Nat} {f : α → List Value} {A : Option Addr} {n c : Nat} {l : List α} (hF : Fr w0 w L D S) (hE : Ext w w') (hs : Sm k f w'.heap w'.heap.size A n c l) (hf : ∀ b, fpA A n b → w.heap.size ≤ b) : Fr w0 w' L (dpSmG k f A n c l :: D) S :=
  hF.addNew hE _ (by unfold dpSmG; exact hs) fun b hb => hf b (by unfold dpSmG at hb; exact hb)
end
end Go.Eng
namespace Go.Proofs.Ytlpheckjogphmaa
open Go Go.Eng Go.Proofs Go.NatM Go.RowKit

/-- a list of places, as a fact -/
def RetPs (w : World) (Q : GL → Prop) (e : Ending) (w' : World) : Prop := ∃ (l' : GL) (A : Option Addr) (k : Nat), Q l' ∧ e = .returned (.slice A l'.length k) ∧ Ext w w' ∧ Sm 4 plc w'.heap w'.heap.size A l'.length k l' ∧ ∀ b, fpA A l'.length b → w.heap.size ≤ b
theorem RetPl.ps {w : World} {Q : GL → Prop} {e : Ending} {w' : World} (h : RetPl w Q e w') : RetPs w Q e w' := by
  obtain ⟨l', pb, hq, hb, rfl, hF⟩ := h
  have := plc_sm hb hF
  exact ⟨l', slA pb, slC pb, hq, by rw [slv_eq hb], hF.ext, this.1, this.2⟩
end Go.Proofs.Ytlpheckjogphmaa

set_option linter.unusedSectionVars false
namespace Go.Eng
open Go Go.Proofs Go.NatM Go.RowKit Go.Proofs.Ytlpheckjogphmaa
section
variable {K V : Type} [DecidableEq K]
theorem lkp_iff {l : List (K × V)} (hn : (l.map (·.1)).Nodup) {x : K} {v : V} : lkp l x = some v ↔ (x, v) ∈ l := ⟨lkp_mem, lkp_of_mem hn⟩
theorem lkp_perm {l l' : List (K × V)} (hn : (l.map (·.1)).Nodup) (h : l.Perm l') (x : K) : lkp l x = lkp l' x := by
  have hn' : (l'.map (·.1)).Nodup := (h.map _).nodup_iff.1 hn
  cases hq : lkp l' x with
  | none => rw [lkp_none] at hq ⊢; exact fun hm => hq ((h.map _).mem_iff.1 hm)
  | some v => rw [lkp_iff hn]; exact h.mem_iff.2 ((lkp_iff hn').1 hq)
theorem lkp_filter (P : K → Bool) : ∀ (l : List (K × V)) (x : K), lkp (l.filter fun p => P p.1) x = if P x then lkp l x else none
  | [], x => by simp [lkp]
  | (y, u) :: l, x => by
    by_cases hP : P y
    · simp only [List.filter_cons, hP, if_true, lkp]
      by_cases h : y = x
      · subst h; simp [hP]
      · simp only [h, if_false]; exact lkp_filter P l x
    · have : (P y) = false := by simpa using hP
      simp only [List.filter_cons, this, Bool.false_eq_true, if_false, lkp]
      by_cases h : y = x
      · subst h; rw [lkp_filter P l y]; simp [this]
      · simp only [h, if_false]; exact lkp_filter P l x
end
theorem lkp_inRow (i : Int) (l : GL) (x y : Int) : lkp (inRow i l) (x, y) = if x = i then lkp l (x, y) else none := by
  have := lkp_filter (fun k : Int × Int => decide (k.1 = i)) l (x, y)
  simp only [decide_eq_true_eq] at this
  exact this
section
variable {S : Nat → Prop} {w0 w w' : World} {L : List VB} {D : List DP}
end
end Go.Eng
namespace Go.Proofs.Ytlpheckjogphmaa
open Go Go.Eng Go.Proofs Go.NatM Go.RowKit

end Go.Proofs.Ytlpheckjogphmaa

set_option linter.unusedSectionVars false
namespace Go.Eng
open Go Go.Proofs Go.NatM Go.RowKit Go.Proofs.Ytlpheckjogphmaa
/-- lo holds what done holds, at the places that t names -/
def Lk (t : Int × Int → Int × Int) (done lo : GL) : Prop := lo.map (fun p => (p.1, ival p.2)) = done.map (fun p => (t p.1, ival p.2))
/-- a place's number, if it is there -/
def zk (l : GL) (k : Int × Int) : Option Int := (lkp l k).map ival
theorem Lk.keys {t : Int × Int → Int × Int} {done lo : GL} (h : Lk t done lo) : lo.map (·.1) = done.map (fun p => t p.1) := by
  have := congrArg (List.map Prod.fst) h
  simpa [List.map_map, Function.comp_def] using this
theorem Lk.snoc {t : Int × Int → Int × Int} {done lo : GL} (h : Lk t done lo) {p : (Int × Int) × IV} {y : IV} (e : ival y = ival p.2) : Lk t (done ++ [p]) (lo ++ [(t p.1, y)]) := by
  unfold Lk at h ⊢
  rw [List.map_append, List.map_append, h]
  simp [e]
theorem Lk.zk {t : Int × Int → Int × Int} (ht : ∀ a b, t a = t b → a = b) {done lo : GL} (h : Lk t done lo) (k : Int × Int) : zk lo (t k) = Go.Eng.zk done k := by
  induction lo generalizing done with
  | nil =>
    cases done with
    | nil => rfl
    | cons p done => simp [Lk] at h
  | cons q lo ih =>
    cases done with
    | nil => simp [Lk] at h
    | cons p done =>
      obtain ⟨qk, qv⟩ := q
      obtain ⟨pk, pv⟩ := p
      simp only [Lk, List.map_cons, List.cons.injEq, Prod.mk.injEq] at h
      have ih := ih (done := done) h.2
      unfold Go.Eng.zk at ih ⊢
      simp only [lkp]
      by_cases hk : pk = k
      · subst hk
        rw [if_pos h.1.1, if_pos rfl]
        simp [h.1.2]
      · rw [if_neg (fun e => hk (ht _ _ (h.1.1.symm.trans e))), if_neg hk]
        exact ih
theorem Lk.new {t : Int × Int → Int × Int} (ht : ∀ a b, t a = t b → a = b) {l done lo todo : GL} {p : (Int × Int) × IV} (h : Lk t done lo) (hn : (l.map (·.1)).Nodup) (hp : l.Perm (done ++ [p] ++ todo)) : t p.1 ∉ lo.map (·.1) := by
  rw [h.keys]
  intro hm
  obtain ⟨q, hq, e⟩ := List.mem_map.1 hm
  have h1 : ((done ++ [p] ++ todo).map (·.1)).Nodup := ((hp.map _).nodup_iff).1 hn
  rw [List.map_append, List.map_append] at h1
  have h2 := (List.nodup_append.1 h1).1
  have h3 := (List.nodup_append.1 h2).2.2 _ (List.mem_map.2 ⟨q, hq, rfl⟩) p.1 (by simp)
  exact h3 (ht _ _ e)
theorem Lk.len {t : Int × Int → Int × Int} {done lo : GL} (h : Lk t done lo) : lo.length = done.length := by
  have := congrArg List.length h
  simpa using this
section
variable {S : Nat → Prop} {w0 w w' : World} {L : List VB} {D : List DP}
/-- a place more -/
theorem Fr.gvSnoc {lo : GL} {q : Int × Int} {y : IV} {z : Int} (hF : Fr w0 w L D S) (h1 : dpGv lo ∈ D) (hy : LI w.heap z y) (hn : y.m.n ≤ 16384) : Fr w0 w L (dpGv (lo ++ [(q, y)]) :: D) S := by
  have h6 := hF.data _ h1
  unfold dpGv at h6
  refine Fr.addGv hF fun p hp => ?_
  rcases List.mem_append.1 hp with hp | hp
  · exact h6 p hp
  · simp only [List.mem_cons, List.not_mem_nil, or_false] at hp
    subst hp
    exact ⟨hy.val.symm ▸ hy, hn⟩
end
def idk (k : Int × Int) : Int × Int := k
theorem idk_inj (a b : Int × Int) (h : idk a = idk b) : a = b := h
end Go.Eng
namespace Go.Proofs.Ytlpheckjogphmaa
open Go Go.Eng Go.Proofs Go.NatM Go.RowKit

theorem pm_mem {α : Type} {l a b b' : List α} {p : α} (h : l.Perm (a ++ b)) (k : b.Perm (p :: b')) : p ∈ l := h.mem_iff.2 (List.mem_append_right _ (k.mem_iff.2 (List.mem_cons_self ..)))
end Go.Proofs.Ytlpheckjogphmaa
