/- Layer 10: the contract of Places, over one of the sort. The sort of places, by the shelf: its contract laid at this translation. Layer 10: the sort of places. Layer 10: the contract of byRow. Layer 10: the sums of a product, in plain words. -/
import Derived.Test.YtlpheckjogphmaaPw11
import Derived.Shelf.SlSortCmp.WholeK
import Derived.Test.YtlpheckjogphmaaProg
set_option linter.unusedVariables false
set_option linter.unusedSimpArgs false
set_option linter.unusedSectionVars false
namespace Go.Eng
open Go
theorem Fr.permL {S : Nat → Prop} {w0 w : World} {L L' : List VB} {D : List DP} (h : Fr w0 w L D S) (hp : L.Perm L') : Fr w0 w L' D S :=
  ⟨h.exs, fun v hv => h.vars v (hp.mem_iff.2 hv), (hp.pairwise_iff (fun h => Ne.symm h)).1 h.dist, h.data, fun v hv => h.apart v (hp.mem_iff.2 hv)⟩
theorem Fr.rotL {S : Nat → Prop} {w0 w : World} {a b c : VB} {L : List VB} {D : List DP} (h : Fr w0 w (a :: b :: c :: L) D S) : Fr w0 w (c :: a :: b :: L) D S :=
  h.permL (by
    have : (a :: b :: c :: L).Perm (a :: c :: b :: L) := (List.Perm.swap c b L).cons a
    exact this.trans (List.Perm.swap c a (b :: L)))
/-- a block that a callee has written anew -/
theorem Fr.wroteV {S : Nat → Prop} {w0 w w' : World} {b : Nat} {t : TypeId} {cs cs' : List Value} {L : List VB} {D : List DP} (hF : Fr w0 w (⟨b, t, cs⟩ :: L) D S) (hc : cs.all noU64 = true) (hE : Exs (fun k => k = b) w w') (hV : Vr w'.heap b t cs') : Fr w0 w' (⟨b, t, cs'⟩ :: L) D S := by
  have hd := List.pairwise_cons.1 hF.dist
  have hlo := (hF.vars _ (List.mem_cons_self ..)).1
  have hVo := (hF.vars _ (List.mem_cons_self ..)).2
  dsimp only at hlo hVo
  refine ⟨hF.exs.then hE fun i hi e => ?_, fun v hv => ?_, List.pairwise_cons.2 ⟨fun v hv => hd.1 v hv, hd.2⟩, fun d hdm => ?_, fun v hv d hdm => ?_⟩
  · subst e
    exact hlo.elim (fun h => absurd hi (Nat.not_lt_of_le h)) id
  · rcases List.mem_cons.1 hv with rfl | hv
    · exact ⟨hlo, hV⟩
    · have h1 := hF.vars v (List.mem_cons_of_mem _ hv)
      refine ⟨h1.1, ?_⟩
      have h2 := h1.2
      have h3 := h2.lt
      unfold Vr at h2 ⊢
      rw [hE.block _ h3 fun e => hd.1 v hv e.symm]; exact h2
  · have hap := hF.apart _ (List.mem_cons_self ..) d hdm
    refine d.st _ _ ⟨hE.size, fun k cs2 t2 y hk hor => hE.block k (Array.getElem?_eq_some_iff.1 hk).1 fun e => ?_, fun k o hk _ hf => hE.block k (Array.getElem?_eq_some_iff.1 hk).1 fun e => hap (e ▸ hf)⟩ (hF.data d hdm)
    subst e
    rcases hor with hf | hn
    · exact hap hf
    · unfold Vr at hVo
      rw [hVo] at hk
      cases hk
      simp only [List.toList_toArray] at hn
      rw [hc] at hn
      cases hn
  · rcases List.mem_cons.1 hv with rfl | hv
    · exact hF.apart _ (List.mem_cons_self ..) d hdm
    · exact hF.apart v (List.mem_cons_of_mem _ hv) d hdm
end Go.Eng
namespace Go.Proofs.Ytlpheckjogphmaa
open Go Go.Eng Go.Proofs Go.NatM Go.RowKit

/-- one place ahead of another -/
def plt (x y : Int × Int) : Prop := x.1 < y.1 ∨ (x.1 = y.1 ∧ x.2 < y.2)
def SortedPl (l : GL) : Prop := l.Pairwise fun x y => plt x.1 y.1
/-- what the sort does -/
def SortOk : Prop := ∀ (w : World) (b c : Nat) (l : GL) (zs : List Value), Vr w.heap b 46 (l.flatMap plc ++ zs) → l.length ≤ 1048576 → (l.map (·.1)).Nodup →
  Cl Try.prog 53 #[.slice (some ⟨b, 0, none⟩) l.length c, .func (.func 54) #[] #[]] w (fun e w' => e = .returned (.tuple #[]) ∧ ∃ l' : GL, l'.Perm l ∧ SortedPl l' ∧ Vr w'.heap b 46 (l'.flatMap plc ++ zs) ∧ Exs (fun k => k = b) w w')
/-- the places in order, in a block of their own -/
def RetPc (w : World) (l : GL) (e : Ending) (w' : World) : Prop := ∃ (ls : GL) (b c : Nat) (zs : List Value), e = .returned (.slice (some ⟨b, 0, none⟩) ls.length c) ∧ (ls.length ≤ c ∧ zs.length = (c - ls.length) * 4 ∧ zs.all noU64 = true) ∧ Fr w w' [⟨b, 46, ls.flatMap plc ++ zs⟩] [dpGv ls] ∧ SortedPl ls ∧ (ls.map (·.1)).Nodup ∧ ls.length = l.length ∧ ∀ k, zk ls k = zk l k
set_option maxHeartbeats 4000000 in
theorem gplaces_ok (hSort : SortOk) (w : World) (g m r c : Nat) (l : GL) (hG : Gr w.heap g m r c l) (hl : l.length ≤ 1048576) : Cl Try.prog 13 #[.pointer (some ⟨g, 0, none⟩)] w (RetPc w l) := by
  have hn : (l.map (·.1)).Nodup := by obtain ⟨es, k, _, h⟩ := hG.mp; exact h.keys
  have hF := Gr.frD hG (Fr.refS w fun _ => False)
  have hgm := hG.ne
  clear hG
  refine enter Try.func13 rfl rfl rfl ?_
  repeat' (first | (refine TL.isOp ?_; first | (refine TL.isG ?_; first | refine TL.grun rfl rfl rfl ?_ | refine TL.gskip rfl rfl rfl rfl ?_ | refine TL.gskipU rfl rfl rfl ?_) | (refine TL.isBin ?_; refine TL.cmpG rfl rfl rfl rfl (fun hc => ?_) (fun hc => ?_) <;> (try (first | (exfalso; omega) | exact absurd rfl hc))) | (apply TL.ev; (case hd => rfl); (case h => (first | exact ev_simple rfl | (apply Ev.isBin; first | exact ev_arN rfl rfl rfl (by omega) | exact ev_arI rfl rfl rfl (by omega) | exact ev_eqlB (r := true) rfl rfl rfl | exact ev_eqlB (r := false) rfl rfl rfl | exact ev_neqB (r := true) rfl rfl rfl | exact ev_neqB (r := false) rfl rfl rfl | exact ev_eqlP rfl rfl rfl) | (apply Ev.isLoad; first | exact ev_loadFr hF rfl (by refine ⟨?_, ?_⟩; (focus (repeat (first | exact InV.head | apply InV.tail))); rfl) | exact ev_loadAFr hF rfl (by refine ⟨?_, ?_⟩; (focus (repeat (first | exact InV.head | apply InV.tail))); rfl) | exact ev_loadCb hF rfl (by repeat (first | exact memH | apply memT)) rfl) | exact ev_len rfl | exact ev_fieldAddr rfl | exact ev_field rfl rfl | exact ev_fieldA rfl rfl | exact ev_buildX rfl rfl | exact ev_makeFunc rfl | exact ev_nilCheck rfl | exact ev_neg rfl (by omega) | exact ev_cap rfl | exact ev_mlen hF rfl (by repeat (first | exact memH | apply memT))))) | (refine TL.storeAFr hF rfl rfl rfl rfl (by refine ⟨?_, ?_⟩; (focus (repeat (first | apply SetV.head | apply SetV.tail))); rfl) rfl ?_; clear hF; intro ws hF) | (refine TL.storeFr hF rfl rfl rfl rfl (by refine ⟨?_, ?_⟩; (focus (repeat (first | apply SetV.head | apply SetV.tail))); rfl) rfl ?_; clear hF; intro ws hF) | (refine TL.makeFr hF (f := plc) ((0, 0), iv0) rfl rfl rfl (Nat.zero_le _) (by omega) rfl rfl rfl ?_; clear hF; intro w13 b13 hF) | (refine TL.rangeFr (f := spot) (g := ivA) (l := l) hF rfl (by repeat (first | exact memH | apply memT)) rfl ?_; have hr := hF.exs.size; clear hF; intro wr rr er hF; replace hr := Nat.le_trans hr (Nat.le_of_eq er.symm); clear er) | (refine TL.boxAFr hF rfl rfl ?_; clear hF; intro wb bb hF) | (refine TL.boxFr hF rfl rfl ?_; clear hF; intro wb bb hF) | (refine TL.allocFr hF rfl rfl ?_; clear hF; intro wa ba hF)) | (refine T.is ?_; first | refine T.seq ?_ | refine T.region ?_ | refine T.block ?_ | refine T.cond_t rfl ?_ | refine T.cond_f rfl ?_ | refine T.exit ?_ | refine T.ret ?_ | refine T.skip ?_ | refine T.regionQ mixed (by kernel_rfl) ?_) | (refine G.is ?_; first | refine G.next ?_ | refine G.blockN ?_ | refine G.blockE ?_ | refine G.blockE' rfl ?_ | refine G.blockR ?_ | refine G.thenE ?_ | refine G.thenR ?_ | refine G.only ?_) | refine TL.nil ?_ | (refine TL.nilFr hF ?_; clear hF; intro wq hF))
  have hmr := hF.it_mp (m := m) (l2 := l) (by repeat (first | exact memH | apply memT)) (by repeat (first | exact memH | apply memT))
  have hgr := hF.it_cb (g := g) (cs := grc r c m) (by repeat (first | exact memH | apply memT)) (by repeat (first | exact memH | apply memT))
  have hzl : ((List.replicate l.length (((0, 0), iv0) : (Int × Int) × IV)).flatMap plc).length = (l.length - ([] : GL).length) * 4 := by rw [flatMap_len (f := plc) (k := 4) fun _ _ => rfl]; simp
  have hzn : ((List.replicate l.length (((0, 0), iv0) : (Int × Int) × IV)).flatMap plc).all noU64 = true := by have := plc_no (List.replicate l.length (((0, 0), iv0) : (Int × Int) × IV)) (zs := []) rfl; rwa [List.append_nil] at this
  refine T.loop (α := GL × GL × GL × List Value) (fun x => [(3, .slice (some ⟨b13, 0, none⟩) x.2.2.1.length l.length), (18, .pointer (some ⟨rr, 0, none⟩))])
    (fun x w' => l.Perm (x.1 ++ x.2.1) ∧ (Lk idk x.1 x.2.2.1 ∧ x.2.2.2.length = (l.length - x.2.2.1.length) * 4 ∧ x.2.2.2.all noU64 = true) ∧ Fr w w' [⟨b13, 46, x.2.2.1.flatMap plc ++ x.2.2.2⟩] [dpIt spot ivA rr m l x.1 x.2.1, dpMp spot ivA m l, dpCb g 96 (grc r c m), dpGv l, dpGv x.2.2.1]) (fun x => x.2.1.length) ([], l, [], (List.replicate l.length (((0, 0), iv0) : (Int × Int) × IV)).flatMap plc) (by repeat (first | exact Sub.nil _ | refine Sub.cons rfl ?_ | refine Sub.cons' rfl (int_congr (by omega)) ?_)) ⟨List.Perm.refl _, ⟨rfl, hzl, hzn⟩, by
      have h0 := Fr.addGv hF (l := []) fun p hp => (by cases hp)
      exact h0.weak (List.Sublist.refl _) (allH (by repeat (first | exact memH | apply memT)) (allH (by repeat (first | exact memH | apply memT)) (allH (by repeat (first | exact memH | apply memT)) (allH (by repeat (first | exact memH | apply memT)) (allH (by repeat (first | exact memH | apply memT)) allN)))))⟩ ?_
  clear hF hzl hzn
  rintro ⟨done, todo, ls, zs⟩ w1 ⟨hp, ⟨hlk, hzl, hzn⟩, hF⟩
  dsimp only at hp hlk hzl hzn hF ⊢
  have hpl := hp.length_eq
  rw [List.length_append] at hpl
  have hll := hlk.len
  have hnd : (ls.map (·.1)).Nodup := by
    rw [hlk.keys]
    have h1 : ((done ++ todo).map (·.1)).Nodup := ((hp.map _).nodup_iff).1 hn
    rw [List.map_append] at h1
    exact (List.nodup_append.1 h1).1
  repeat' (first | (refine TL.isOp ?_; first | (refine TL.isG ?_; first | refine TL.grun rfl rfl rfl ?_ | refine TL.gskip rfl rfl rfl rfl ?_ | refine TL.gskipU rfl rfl rfl ?_) | (refine TL.isCall ?_; refine TL.call rfl rfl ?_; first | (refine (zleast_ok _ p.2 (Fr.gv (l := l) hF (by repeat (first | exact memH | apply memT)) p (pm_mem hp ht)).1.g (Nat.le_trans (Fr.gv (l := l) hF (by repeat (first | exact memH | apply memT)) p (pm_mem hp ht)).2 (by decide))).mono ?_; rintro _ wy ⟨y, rfl, hy, hE, hyn⟩; have hyn2 := Nat.le_trans hyn (Fr.gv (l := l) hF (by repeat (first | exact memH | apply memT)) p (pm_mem hp ht)).2; have hyv := hy.val; replace hF := Fr.addLI (hF.exts hE) hy; clear hE hy hyn; refine Back.mk ?_) | (refine (hSort _ b13 l.length ls zs (hF.var .head) (by omega) hnd).mono ?_; rintro _ wy ⟨rfl, ls', hpls, hso, hV', hE⟩; replace hF := hF.wroteV (plc_no _ hzn) hE hV'; clear hE hV'; rw [← hpls.length_eq]; refine Back.mk ?_)) | (refine TL.isBin ?_; refine TL.cmpG rfl rfl rfl rfl (fun hc => ?_) (fun hc => ?_) <;> (try (first | (exfalso; omega) | exact absurd rfl hc))) | (apply TL.ev; (case hd => rfl); (case h => (first | exact ev_simple rfl | (apply Ev.isBin; first | exact ev_arN rfl rfl rfl (by omega) | exact ev_arI rfl rfl rfl (by omega) | exact ev_eqlB (r := true) rfl rfl rfl | exact ev_eqlB (r := false) rfl rfl rfl | exact ev_neqB (r := true) rfl rfl rfl | exact ev_neqB (r := false) rfl rfl rfl) | (apply Ev.isLoad; first | exact ev_loadFr hF rfl (by refine ⟨?_, ?_⟩; (focus (repeat (first | exact InV.head | apply InV.tail))); rfl) | exact ev_loadAFr hF rfl (by refine ⟨?_, ?_⟩; (focus (repeat (first | exact InV.head | apply InV.tail))); rfl)) | exact ev_len rfl | exact ev_fieldAddr rfl | exact ev_field rfl rfl | exact ev_fieldA rfl rfl | exact ev_buildX rfl rfl | exact ev_makeFunc rfl | exact ev_nilCheck rfl | exact ev_neg rfl (by omega) | exact ev_cap rfl | exact ev_entry hF (by repeat (first | exact memH | apply memT)) rfl))) | (refine TL.storeAFr hF rfl rfl rfl rfl (by refine ⟨?_, ?_⟩; (focus (repeat (first | apply SetV.head | apply SetV.tail))); rfl) rfl ?_; clear hF; intro ws hF) | (refine TL.storeFr hF rfl rfl rfl rfl (by refine ⟨?_, ?_⟩; (focus (repeat (first | apply SetV.head | apply SetV.tail))); rfl) rfl ?_; clear hF; intro ws hF) | (refine TL.nextFr hF (.inl hr) (nfC (nf_mp hmr) (nfC (nf_cb hgr) (nfC nf_gv (nfC nf_gv nfN)))) rfl rfl (fun h0 wn hFn => ?_) (fun p todo' wn ht hFn => ?_) <;> clear hF <;> have hF := hFn <;> clear hFn) | (refine TL.allocFr hF (d := 4) rfl rfl ?_; clear hF; intro w4 b4 hF) | (refine TL.allocFr hF (d := 5) rfl rfl ?_; clear hF; intro w5 b5 hF) | (refine TL.buildXs hF (f := plc) (d := 32) [(p.1, y)] [.tmp 31] rfl rfl rfl rfl (by intro u hu; rfl) rfl rfl (by omega) (by omega) ?_; clear hF; intro w32 b32 hF hEn hbn hSn) | (refine TL.appendAtFr (f := plc) (l := ls) (zs := zs) hF rfl rfl rfl rfl hSn (fun _ => rfl) (fun _ => rfl) rfl rfl rfl hzl (by omega) (plc_no _ hzn) (by omega) (by repeat (first | exact SetV.head | apply SetV.tail)) (fun hle wa hFn => ?_) (fun hgt wa ba ca za hca hza hzan hFn => ?_) <;> clear hF hSn <;> have hF := hFn <;> clear hFn) | (refine TL.boxAFr hF rfl rfl ?_; clear hF; intro wb bb hF) | (refine TL.boxFr hF rfl rfl ?_; clear hF; intro wb bb hF) | (refine TL.allocFr hF rfl rfl ?_; clear hF; intro wa ba hF)) | (refine TF.is ?_; first | refine TF.nil ?_ | refine TF.e rfl ?_ | refine TF.alt ?_ ?_ | (refine TF.pick rfl ?_; first | (refine TFo.cmpG rfl rfl rfl rfl (fun hc => ?_) (fun hc => ?_) <;> (try (first | (exfalso; omega) | exact absurd rfl hc))) | (refine TFo.cmpGg rfl rfl rfl rfl rfl rfl rfl (fun hc => ?_) (fun hc => ?_) <;> (try (first | (exfalso; omega) | exact absurd rfl hc))) | (apply TFo.ev; (case hd => rfl); (case h => (intro wh hF; first | exact ev_simple rfl | (apply Ev.isBin; first | exact ev_arN rfl rfl rfl (by omega) | exact ev_arI rfl rfl rfl (by omega) | exact ev_eqlB (r := true) rfl rfl rfl | exact ev_eqlB (r := false) rfl rfl rfl | exact ev_neqB (r := true) rfl rfl rfl | exact ev_neqB (r := false) rfl rfl rfl) | (apply Ev.isLoad; first | exact ev_loadFr hF rfl (by refine ⟨?_, ?_⟩; (focus (repeat (first | exact InV.head | apply InV.tail))); rfl) | exact ev_loadAFr hF rfl (by refine ⟨?_, ?_⟩; (focus (repeat (first | exact InV.head | apply InV.tail))); rfl)) | exact ev_len rfl | exact ev_fieldAddr rfl | exact ev_field rfl rfl | exact ev_fieldA rfl rfl | exact ev_buildX rfl rfl | exact ev_makeFunc rfl | exact ev_nilCheck rfl | exact ev_neg rfl (by omega) | exact ev_cap rfl | exact ev_entry hF (by repeat (first | exact memH | apply memT)) rfl))) | (apply TFo.evg rfl rfl rfl; (case hd => rfl); (case h => (intro wh hF; first | exact ev_simple rfl | (apply Ev.isBin; first | exact ev_arN rfl rfl rfl (by omega) | exact ev_arI rfl rfl rfl (by omega) | exact ev_eqlB (r := true) rfl rfl rfl | exact ev_eqlB (r := false) rfl rfl rfl | exact ev_neqB (r := true) rfl rfl rfl | exact ev_neqB (r := false) rfl rfl rfl) | (apply Ev.isLoad; first | exact ev_loadFr hF rfl (by refine ⟨?_, ?_⟩; (focus (repeat (first | exact InV.head | apply InV.tail))); rfl) | exact ev_loadAFr hF rfl (by refine ⟨?_, ?_⟩; (focus (repeat (first | exact InV.head | apply InV.tail))); rfl)) | exact ev_len rfl | exact ev_fieldAddr rfl | exact ev_field rfl rfl | exact ev_fieldA rfl rfl | exact ev_buildX rfl rfl | exact ev_makeFunc rfl | exact ev_nilCheck rfl | exact ev_neg rfl (by omega) | exact ev_cap rfl | exact ev_entry hF (by repeat (first | exact memH | apply memT)) rfl))) | refine TFo.skip rfl rfl rfl rfl ?_ | refine TFo.skipU rfl rfl rfl ?_)) | (refine T.is ?_; first | refine T.seq ?_ | refine T.region ?_ | refine T.block ?_ | refine T.cond_t rfl ?_ | refine T.cond_f rfl ?_ | refine T.exit ?_ | refine T.ret ?_ | refine T.skip ?_ | (refine T.regionFt (Fr.rotL hF) 7 11 (.s 0 (.s 1 (.s 2 (.s 3 (.s 4 (.s 5 (.e 6 (.s 7 (.e 8 (.e 9 (.s 10 .nil))))))))))) mixed (by kernel_rfl) ?_; clear hF; intro wr hF) | refine T.regionQ mixed (by kernel_rfl) ?_) | (refine G.is ?_; first | refine G.next ?_ | refine G.blockN ?_ | refine G.blockE ?_ | refine G.blockE' rfl ?_ | refine G.blockR ?_ | refine G.thenE ?_ | refine G.thenR ?_ | refine G.only ?_ | refine G.treeEnd rfl ?_ | refine G.tree rfl (by first | exact hF | exact hF.weak (List.sublist_append_right _ _) (by repeat (first | exact allR | apply allT)) | exact hF.weak (by repeat (first | exact List.Sublist.refl _ | apply List.Sublist.cons)) (by repeat (first | exact allR | apply allT)) | exact hF.weak (by repeat (first | exact List.Sublist.refl _ | apply List.Sublist.cons)) (by repeat (first | exact allN | refine allH (by repeat (first | exact memH | apply memT)) ?_))) ?_) | refine TL.nil ?_ | (refine TL.nilFr hF ?_; clear hF; intro wq hF))
  · subst h0
    rw [List.append_nil] at hp
    have hgv := Fr.gv (l := ls) hF (by repeat (first | exact memH | apply memT))
    have hF2 := Fr.addGv hF (l := ls') fun p hp => hgv p (hpls.mem_iff.1 hp)
    have hlen := hpls.length_eq
    have hdl := hp.length_eq
    refine G.ret1 rfl rfl ⟨ls', b13, l.length, zs, rfl, ⟨by omega, by rw [hlen]; exact hzl, hzn⟩, hF2.weak (List.Sublist.refl _) (allH (by repeat (first | exact memH | apply memT)) allN), hso, ((hpls.map _).nodup_iff).2 hnd, by omega, fun k => ?_⟩
    have e1 := hlk.zk idk_inj k
    unfold zk at e1 ⊢
    rw [lkp_perm hn hp, ← e1, ← lkp_perm hnd hpls.symm]; rfl
  · refine G.again (done ++ [p], todo', ls ++ [(idk p.1, y)], zs.drop (1 * 4)) ?_ ⟨step_perm hp ht, ⟨hlk.snoc hyv, ?_, drop_noV hzn _⟩, ?_⟩ (step_mu ht)
    · dsimp only; rw [List.length_append]; exact (by repeat (first | exact Sub.nil _ | refine Sub.cons rfl ?_ | refine Sub.cons' rfl (int_congr (by omega)) ?_))
    · dsimp only; rw [List.length_drop, List.length_append, hzl]; simp only [List.length_cons, List.length_nil]; omega
    · exact (Fr.gvSnoc hF (lo := ls) (q := idk p.1) (by repeat (first | exact memH | apply memT)) (Fr.li hF (x := y) (z := ival p.2) (by repeat (first | exact memH | apply memT))) hyn2).weak (.cons_cons _ (List.nil_sublist _)) (allH (by repeat (first | exact memH | apply memT)) (allH (by repeat (first | exact memH | apply memT)) (allH (by repeat (first | exact memH | apply memT)) (allH (by repeat (first | exact memH | apply memT)) (allH (by repeat (first | exact memH | apply memT)) allN)))))
  · have := step_mu ht
    exact absurd hgt (by omega)
end Go.Proofs.Ytlpheckjogphmaa

namespace Go.Proofs
open Go.Shelf
def Try.sortPl_ren : Go.Shelf.Ren := ⟨fun | 6 => 53 | 15 => 82 | 14 => 81 | 28 => 101 | 29 => 65 | 20 => 93 | 21 => 94 | 22 => 95 | 23 => 96 | 24 => 97 | 25 => 98 | 26 => 99 | 27 => 100 | 46 => 105 | 47 => 106 | 48 => 107 | 49 => 108 | 50 => 109 | 57 => 111 | n => n, fun | 22 => 33 | 24 => 46 | 25 => 100 | 3 => 3 | 39 => 131 | 0 => 0 | 53 => 146 | 55 => 91 | 4 => 4 | 46 => 139 | 45 => 138 | 50 => 143 | 5 => 5 | 9 => 9 | 66 => 147 | 70 => 151 | 76 => 153 | 77 => 71 | n => n, fun | n => n⟩
theorem Try.sortPl : Go.Proofs.SlLaysF0.n6 Try.prog Try.sortPl_ren := {
  mixed := by kernel_rfl
  f6 := ⟨Try.f53.name, by decide, Try.func53.trans (congrArg some (by kernel_rfl))⟩
  f14 := ⟨Try.f81.name, by decide, Try.func81.trans (congrArg some (by kernel_rfl))⟩
  f15 := Try.func82.trans (congrArg some (by kernel_rfl))
  f20 := ⟨Try.f93.name, by decide, Try.func93.trans (congrArg some (by kernel_rfl))⟩
  f21 := ⟨Try.f94.name, by decide, Try.func94.trans (congrArg some (by kernel_rfl))⟩
  f22 := ⟨Try.f95.name, by decide, Try.func95.trans (congrArg some (by kernel_rfl))⟩
  f23 := ⟨Try.f96.name, by decide, Try.func96.trans (congrArg some (by kernel_rfl))⟩
  f24 := ⟨Try.f97.name, by decide, Try.func97.trans (congrArg some (by kernel_rfl))⟩
  f25 := ⟨Try.f98.name, by decide, Try.func98.trans (congrArg some (by kernel_rfl))⟩
  f26 := ⟨Try.f99.name, by decide, Try.func99.trans (congrArg some (by kernel_rfl))⟩
  f27 := ⟨Try.f100.name, by decide, Try.func100.trans (congrArg some (by kernel_rfl))⟩
  f28 := Try.func101.trans (congrArg some (by kernel_rfl))
  f29 := Try.func65.trans (congrArg some (by kernel_rfl))
  f46 := ⟨Try.f105.name, by decide, Try.func105.trans (congrArg some (by kernel_rfl))⟩
  f47 := Try.func106.trans (congrArg some (by kernel_rfl))
  f48 := Try.func107.trans (congrArg some (by kernel_rfl))
  f49 := ⟨Try.f108.name, by decide, Try.func108.trans (congrArg some (by kernel_rfl))⟩
  f50 := ⟨Try.f109.name, by decide, Try.func109.trans (congrArg some (by kernel_rfl))⟩
  f57 := ⟨Try.f111.name, by decide, Try.func111.trans (congrArg some (by kernel_rfl))⟩
  t0 := Try.underlying0
  a0 := Try.isAgg0
  z0 := Try.sizeOf0
  v0 := Try.zeroValue0
  t3 := Try.underlying3
  a3 := Try.isAgg3
  z3 := Try.sizeOf3
  v3 := Try.zeroValue3
  t4 := Try.underlying4
  a4 := Try.isAgg4
  z4 := Try.sizeOf4
  v4 := Try.zeroValue4
  t5 := Try.underlying5
  a5 := Try.isAgg5
  z5 := Try.sizeOf5
  v5 := Try.zeroValue5
  t9 := Try.underlying9
  a9 := Try.isAgg9
  z9 := Try.sizeOf9
  v9 := Try.zeroValue9
  t22 := Try.underlying33
  a22 := Try.isAgg33
  z22 := Try.sizeOf33
  v22 := Try.zeroValue33
  t25 := Try.underlying100
  a25 := Try.isAgg100
  z25 := Try.sizeOf100
  v25 := Try.zeroValue100
  t39 := Try.underlying131
  a39 := Try.isAgg131
  z39 := Try.sizeOf131
  v39 := Try.zeroValue131
  t45 := Try.underlying138
  a45 := Try.isAgg138
  z45 := Try.sizeOf138
  v45 := Try.zeroValue138
  t46 := Try.underlying139
  a46 := Try.isAgg139
  z46 := Try.sizeOf139
  v46 := Try.zeroValue139
  t50 := Try.underlying143
  a50 := Try.isAgg143
  z50 := Try.sizeOf143
  v50 := Try.zeroValue143
  t53 := Try.underlying146
  a53 := Try.isAgg146
  z53 := Try.sizeOf146
  v53 := Try.zeroValue146
  t55 := Try.underlying91
  a55 := Try.isAgg91
  z55 := Try.sizeOf91
  v55 := Try.zeroValue91
  t66 := Try.underlying147
  a66 := Try.isAgg147
  z66 := Try.sizeOf147
  v66 := Try.zeroValue147
  t70 := Try.underlying151
  a70 := Try.isAgg151
  z70 := Try.sizeOf151
  v70 := Try.zeroValue151
  t76 := Try.underlying153
  a76 := Try.isAgg153
  z76 := Try.sizeOf153
  v76 := Try.zeroValue153
  t77 := Try.underlying71
  a77 := Try.isAgg71
  z77 := Try.sizeOf71
  v77 := Try.zeroValue71 }
end Go.Proofs

set_option linter.unusedSectionVars false
namespace Go.Proofs.Ytlpheckjogphmaa
open Go Go.Eng Go.Proofs Go.NatM Go.RowKit Go.Sort

theorem cmpPl_lt (x y : (Int × Int) × IV) : cmpPl x y < 0 ↔ plt x.1 y.1 := by
  unfold cmpPl orI cmpI plt
  constructor
  · intro h
    (repeat' split at h) <;> omega
  · intro h
    (repeat' split) <;> omega
theorem plt_swo : SWO (ltOf cmpPl) where
  irrefl x := by
    have : ¬ cmpPl x x < 0 := fun h => by have := (cmpPl_lt x x).1 h; unfold plt at this; omega
    simp [ltOf, this]
  trans x y z h1 h2 := by
    unfold ltOf at *
    simp only [decide_eq_true_eq] at *
    rw [cmpPl_lt] at *
    unfold plt at *; omega
  ntrans x y z h1 h2 := by
    unfold ltOf at *
    simp only [decide_eq_false_iff_not] at *
    rw [cmpPl_lt] at *
    unfold plt at *; omega
theorem sorted_of {d : Array ((Int × Int) × IV)} (hs : SortedIn (ltOf cmpPl) 0 d.size d) (hn : (d.toList.map (·.1)).Nodup) : SortedPl d.toList := by
  unfold SortedPl
  rw [List.pairwise_iff_getElem]
  intro i j hi hj hij
  have h1 := hs i j (Nat.zero_le _) hij (by simpa using hj)
  have hi' : i < d.size := by simpa using hi
  have hj' : j < d.size := by simpa using hj
  rw [getElem!_pos d i hi', getElem!_pos d j hj'] at h1
  unfold ltOf at h1
  simp only [decide_eq_false_iff_not] at h1
  rw [cmpPl_lt] at h1
  have h2 : d[i].1 ≠ d[j].1 := fun e => by
    have := (List.nodup_iff_pairwise_ne.1 hn)
    rw [List.pairwise_iff_getElem] at this
    have h3 := this i j (by simpa using hi) (by simpa using hj) hij
    simp only [List.getElem_map, Array.getElem_toList] at h3
    exact h3 e
  simp only [Array.getElem_toList]
  generalize d[i].1 = a at *
  generalize d[j].1 = b at *
  obtain ⟨a1, a2⟩ := a
  obtain ⟨b1, b2⟩ := b
  unfold plt at *
  simp only [ne_eq, Prod.mk.injEq, not_and] at *
  omega
theorem sort_ok : SortOk := by
  intro w b c l zs hV hl hn
  have eg : ∀ args w, (callFunc 54 args).run Try.prog w = .ok (.enter 54 args) w := enters_of Try.func54 (by kernel_rfl) rfl
  have hcmp : CmpLays Try.prog 54 #[] plc 4 cmpPl b 0 l.toArray.size w := fun m os dk _ x y => (plcmp_ok _ x y).out.mono fun e w' ⟨he, hg⟩ => ⟨he, hg.grow⟩
  have hcon := AnyQ.slices_SortFunc Try.sortPl 4 Try.isAgg46 Try.sizeOf46 plc (fun _ => rfl) (fun x v hv => by simp [plc] at hv; rcases hv with rfl | rfl | rfl | rfl <;> rfl) cmpPl plt_swo 54 #[] b 0 c l.toArray w eg hcmp (holds_of hV) hV.lt (by simp; omega)
  have e0 : l.toArray.size = l.length := by simp
  rw [e0] at hcon
  change Calls Try.prog 53 _ _ _ at hcon
  refine Cl.of (hcon.mono ?_)
  rintro e w' ⟨rfl, d', n, os, hp, hs, rfl⟩
  have hsz : d'.size = l.length := by have := hp.1; simpa using this
  have hpm : d'.toList.Perm l := by
    have h1 := hp.2.2
    have e1 : (d'.extract 0 l.length) = d' := by rw [← hsz]; simp
    have e2 : (l.toArray.extract 0 l.length) = l.toArray := by
      rw [← e0]; exact Array.extract_size
    rw [e1, e2] at h1
    exact h1
  have hv := put_vr (n := n) os hV hsz
  rw [← hsz] at hs
  exact ⟨rfl, d'.toList, hpm, sorted_of hs (((hpm.map _).nodup_iff).2 hn), hv.1, hv.2⟩
end Go.Proofs.Ytlpheckjogphmaa

set_option linter.unusedSectionVars false
namespace Go.Eng
open Go Go.Proofs Go.NatM Go.RowKit Go.Proofs.Ytlpheckjogphmaa
abbrev S3 := Option Addr × Nat × Nat
def slc3 (x : S3) : Value := .slice x.1 x.2.1 x.2.2
/-- a row's places: its number, where the list lies, the list -/
abbrev RW := Int × S3 × GL
/-- finished rows -/
def dpRW (R : List RW) : DP := ⟨fun H => ∀ r ∈ R, Sm 4 plc H H.size r.2.1.1 r.2.1.2.1 r.2.1.2.2 r.2.2, fun k => ∃ r ∈ R, fpA r.2.1.1 r.2.1.2.1 k,
  fun H k h ⟨r, hr, hk⟩ => (h r hr).fp_lt hk, fun H H' hd h r hr => (Sm.de (fun b hb => ⟨r, hr, hb⟩) hd (h r hr)).size⟩
/-- the row that grows -/
abbrev CW := Option (Int × GL × Nat × Nat × List Value)
def curM : CW → List (Int × S3)
  | none => []
  | some (k, gl, b, c, _) => [(k, (some ⟨b, 0, none⟩, gl.length, c))]
def curL : CW → List VB
  | none => []
  | some (_, gl, b, _, zs) => [⟨b, 46, gl.flatMap plc ++ zs⟩]
def curG : CW → GL
  | none => []
  | some (_, gl, _, _, _) => gl
def curK : CW → Prop
  | none => True
  | some (k, gl, _, c, zs) => 0 < gl.length ∧ gl.length ≤ c ∧ zs.length = (c - gl.length) * 4 ∧ zs.all noU64 = true ∧ ∀ q ∈ gl, q.1.1 = k
def rowsG (R : List RW) : GL := R.flatMap (·.2.2)
def rowsM (R : List RW) : List (Int × S3) := R.map fun r => (r.1, r.2.1)
def rowOk (r : RW) : Prop := 0 < r.2.2.length ∧ r.2.1.2.1 = r.2.2.length ∧ ∀ q ∈ r.2.2, q.1.1 = r.1
section
variable {S : Nat → Prop} {w0 w w' : World} {L : List VB} {D : List DP}
theorem Fr.rw (hF : Fr w0 w L D S) {R : List RW} (h : dpRW R ∈ D) : ∀ r ∈ R, Sm 4 plc w.heap w.heap.size r.2.1.1 r.2.1.2.1 r.2.1.2.2 r.2.2 := hF.data _ h
theorem sm_ne {k : Nat} {α : Type} {f : α → List Value} {H : Array Obj} {A : Option Addr} {n c m B : Nat} {l : List α} {es : Array MapEntry} {x : Nat} (hs : Sm k f H B A n c l) (hm : H[m]? = some (.map es x)) : ¬ fpA A n m := fun ⟨hn, o, e⟩ => by
  have hl := hs.len
  have hp := hs.pos
  rcases hs.mem with h | ⟨b, o', e', _, hc⟩
  · omega
  · rw [e] at e'
    cases e'
    have hw := hs.wid l[0] (List.getElem_mem (by omega))
    have := hc 0 l[0] (List.getElem?_eq_getElem (by omega)) 0 (f l[0])[0] (List.getElem?_eq_getElem (by omega))
    unfold hcell at this
    rw [hm] at this
    cases this
theorem Fr.rw_mp (hF : Fr w0 w L D S) {R : List RW} (h : dpRW R ∈ D) {m : Nat} {K V : Type} [DecidableEq K] {f' : K → Value} {g' : V → Value} {l' : List (K × V)} (h2 : dpMp f' g' m l' ∈ D) : ¬ (dpRW R).fp m := fun ⟨r, hr, hk⟩ => by
  obtain ⟨es, x, hm, _⟩ := hF.mp h2
  exact sm_ne (hF.rw h r hr) hm hk
/-- a block of places that is written no more -/
theorem Fr.vbSm {gl : GL} {b c : Nat} {zs : List Value} (hF : Fr w0 w (⟨b, 46, gl.flatMap plc ++ zs⟩ :: L) D S) (hc : gl.length ≤ c) : Fr w0 w L (dpSmG 4 plc (some ⟨b, 0, none⟩) gl.length c gl :: D) S := by
  have hw := hF.weak (L := L) (D := D) (List.Sublist.cons _ (List.Sublist.refl _)) allR
  have hV := hF.var (b := b) .head
  refine hw.add _ (by unfold dpSmG; exact vr_sm (by decide) (fun _ _ => rfl) hV rfl hc hV.lt) fun v hv hk => ?_
  unfold dpSmG at hk
  obtain ⟨_, o, e⟩ := hk
  simp only [Option.some.injEq, Addr.mk.injEq] at e
  exact (List.pairwise_cons.1 hF.dist).1 v hv e.1
/-- the growing row is finished -/
theorem Fr.fin {R : List RW} {k : Int} {gl : GL} {b c : Nat} {zs : List Value} (hF : Fr w0 w (⟨b, 46, gl.flatMap plc ++ zs⟩ :: L) D S) (h : dpRW R ∈ D) (hc : gl.length ≤ c) : Fr w0 w L (dpRW (R ++ [(k, (some ⟨b, 0, none⟩, gl.length, c), gl)]) :: D) S := by
  have hw := hF.weak (L := L) (D := D) (List.Sublist.cons _ (List.Sublist.refl _)) allR
  have hV := hF.var (b := b) .head
  refine hw.add _ (fun r hr => ?_) fun v hv hk => ?_
  · rcases List.mem_append.1 hr with hr | hr
    · exact hF.rw h r hr
    · simp only [List.mem_cons, List.not_mem_nil, or_false] at hr
      subst hr
      exact vr_sm (by decide) (fun _ _ => rfl) hV rfl hc hV.lt
  · obtain ⟨r, hr, hk⟩ := hk
    rcases List.mem_append.1 hr with hr | hr
    · exact hF.apart v (List.mem_cons_of_mem _ hv) _ h ⟨r, hr, hk⟩
    · simp only [List.mem_cons, List.not_mem_nil, or_false] at hr
      subst hr
      obtain ⟨_, o, e⟩ := hk
      simp only [Option.some.injEq, Addr.mk.injEq] at e
      exact (List.pairwise_cons.1 hF.dist).1 v hv e.1
end
end Go.Eng
namespace Go.Proofs.Ytlpheckjogphmaa
open Go Go.Eng Go.Proofs Go.NatM Go.RowKit

theorem lkp_app {K V : Type} [DecidableEq K] : ∀ (a b : List (K × V)) (x : K), lkp (a ++ b) x = (lkp a x).or (lkp b x)
  | [], b, x => by simp [lkp]
  | (y, u) :: a, b, x => by
    simp only [List.cons_append, lkp]
    by_cases h : y = x <;> simp [h, lkp_app a b x]
theorem ups_last {K V : Type} [DecidableEq K] {a : List (K × V)} {x : K} {u : V} (h : x ∉ a.map (·.1)) (v : V) : ups (a ++ [(x, u)]) x v = a ++ [(x, v)] := by
  induction a with
  | nil => simp [ups]
  | cons p a ih =>
    simp only [List.map_cons, List.mem_cons, not_or] at h
    obtain ⟨y, z⟩ := p
    simp only [List.cons_append, ups]
    rw [if_neg fun e => h.1 e.symm, ih h.2]
section
variable {P : Program} {σ : Go.Eng.Store} {do_ : Option Tmp} {t : TypeId} {pos : String} {af : Array Edge} {gd : Option (Nat × Bool)} {S : Nat → Prop} {w0 w w' : World} {L : List VB} {D : List DP} {K V : Type} [DecidableEq K] {f : K → Value} {g : V → Value} {b : Nat} {l : List (K × V)}
theorem ev_mlookV (hF : Fr w0 w L D S) {x i : Operand} {ty k e : TypeId} [hT : UMap P ty k e] [hK : UKey P k K f] {z : Value} {sz b1 : Nat} [hS : USize P e z sz b1] {y : K} {v : V} (hx : Go.Eng.look σ x = some (.map (some b))) (hi : Go.Eng.look σ i = some (f y)) (hm : dpMp f g b l ∈ D) (h : lkp l y = some v) :
    Ev P σ w.heap ⟨do_, .lookup ty x i false, t, pos, af, gd⟩ (g v) := by
  have := ev_mlook (do_ := do_) (t := t) (pos := pos) (af := af) (gd := gd) (ty := ty) (P := P) hF hx hi hm
  rwa [h] at this
theorem ev_mlookS {l : List (K × S3)} (hF : Fr w0 w L D S) {x i : Operand} {ty k e : TypeId} [hT : UMap P ty k e] [hK : UKey P k K f] {z : Value} {sz b1 : Nat} [hS : USize P e z sz b1] {y : K} {A : Option Addr} {n c : Nat} (hx : Go.Eng.look σ x = some (.map (some b))) (hi : Go.Eng.look σ i = some (f y)) (hm : dpMp f slc3 b l ∈ D) (h : lkp l y = some (A, n, c)) :
    Ev P σ w.heap ⟨do_, .lookup ty x i false, t, pos, af, gd⟩ (.slice A n c) := ev_mlookV (g := slc3) hF hx hi hm h
theorem ev_mlookN (hF : Fr w0 w L D S) {x i : Operand} {ty k e : TypeId} [hT : UMap P ty k e] [hK : UKey P k K f] {z : Value} {sz b1 : Nat} [hS : USize P e z sz b1] {y : K} (hx : Go.Eng.look σ x = some (.map (some b))) (hi : Go.Eng.look σ i = some (f y)) (hm : dpMp f g b l ∈ D) (h : lkp l y = none) :
    Ev P σ w.heap ⟨do_, .lookup ty x i false, t, pos, af, gd⟩ z := by
  have := ev_mlook (do_ := do_) (t := t) (pos := pos) (af := af) (gd := gd) (ty := ty) (P := P) hF hx hi hm
  rwa [h] at this
end
/-- the rows of a sorted list: a map of them -/
def RetBy (w : World) (l : GL) (e : Ending) (w' : World) : Prop := ∃ (mb : Nat) (R : List RW) (ls : GL), e = .returned (.map (some mb)) ∧ w.heap.size ≤ mb ∧ Fr w w' [] [dpMp intk slc3 mb (rowsM R), dpRW R, dpGv ls] ∧ rowsG R = ls ∧ (∀ r ∈ R, rowOk r) ∧ (ls.map (·.1)).Nodup ∧ ls.length = l.length ∧ (∀ k, zk ls k = zk l k) ∧ ∀ r ∈ R, ∀ k, fpA r.2.1.1 r.2.1.2.1 k → w.heap.size ≤ k
theorem sorted_take {ls : GL} (h : SortedPl ls) {k : Nat} {p q : (Int × Int) × IV} (hp : ls[k]? = some p) (hq : q ∈ ls.take k) : plt q.1 p.1 := by
  obtain ⟨hlt, he⟩ := List.getElem?_eq_some_iff.1 hp
  have e : ls = ls.take k ++ p :: ls.drop (k + 1) := by rw [← he, ← List.drop_eq_getElem_cons hlt, List.take_append_drop]
  unfold SortedPl at h
  rw [e, List.pairwise_append] at h
  exact h.2.2 q hq p (List.mem_cons_self ..)
set_option maxHeartbeats 4000000 in
theorem gbyrow_ok (w : World) (g m r c : Nat) (l : GL) (hG : Gr w.heap g m r c l) (hl : l.length ≤ 1048576) : Cl Try.prog 60 #[.pointer (some ⟨g, 0, none⟩)] w (RetBy w l) := by
  have hF := Fr.mt (Fr.refS w fun _ => False) (dpGr g m r c l) (by unfold dpGr; exact hG)
  clear hG
  refine enter Try.func60 rfl rfl rfl ?_
  repeat' (first | (refine TL.isOp ?_; first | (refine TL.isG ?_; first | refine TL.grun rfl rfl rfl ?_ | refine TL.gskip rfl rfl rfl rfl ?_ | refine TL.gskipU rfl rfl rfl ?_) | (refine TL.isCall ?_; refine TL.call rfl rfl ?_; first | (refine (gplaces_ok sort_ok _ g m r c l (hF.grOf (by repeat (first | exact memH | apply memT))) hl).mono ?_; rintro _ wy ⟨ls, bl, cl, zl, rfl, ⟨hc1, hc2, hc3⟩, hFl, hso, hnd, hlen, hzk⟩; replace hF := Fr.joinF hF hFl (fun d hd => by simp only [List.mem_cons, List.not_mem_nil, or_false] at hd; subst hd; exact fun k => nf_gv); clear hFl; refine Back.mk ?_)) | (refine TL.isBin ?_; refine TL.cmpG rfl rfl rfl rfl (fun hc => ?_) (fun hc => ?_) <;> (try (first | (exfalso; omega) | exact absurd rfl hc))) | (apply TL.ev; (case hd => rfl); (case h => (first | exact ev_simple rfl | (apply Ev.isBin; first | exact ev_arN rfl rfl rfl (by omega) | exact ev_arI rfl rfl rfl (by omega) | exact ev_eqlB (r := true) rfl rfl rfl | exact ev_eqlB (r := false) rfl rfl rfl | exact ev_neqB (r := true) rfl rfl rfl | exact ev_neqB (r := false) rfl rfl rfl) | (apply Ev.isLoad; first | exact ev_loadFr hF rfl (by refine ⟨?_, ?_⟩; (focus (repeat (first | exact InV.head | apply InV.tail))); rfl) | exact ev_loadAFr hF rfl (by refine ⟨?_, ?_⟩; (focus (repeat (first | exact InV.head | apply InV.tail))); rfl)) | exact ev_len rfl | exact ev_fieldAddr rfl | exact ev_field rfl rfl | exact ev_fieldA rfl rfl | exact ev_buildX rfl rfl | exact ev_makeFunc rfl | exact ev_nilCheck rfl | exact ev_neg rfl (by omega) | exact ev_cap rfl))) | (refine TL.storeAFr hF rfl rfl rfl rfl (by refine ⟨?_, ?_⟩; (focus (repeat (first | apply SetV.head | apply SetV.tail))); rfl) rfl ?_; clear hF; intro ws hF) | (refine TL.storeFr hF rfl rfl rfl rfl (by refine ⟨?_, ?_⟩; (focus (repeat (first | apply SetV.head | apply SetV.tail))); rfl) rfl ?_; clear hF; intro ws hF) | (refine TL.makeMpFr intk slc3 hF (d := 6) rfl ?_; have h6 := hF.exs.size; clear hF; intro w6 mb hm6 hF; replace h6 := Nat.le_trans h6 (Nat.le_of_eq hm6.symm); clear hm6) | (refine TL.boxAFr hF rfl rfl ?_; clear hF; intro wb bb hF) | (refine TL.boxFr hF rfl rfl ?_; clear hF; intro wb bb hF) | (refine TL.allocFr hF rfl rfl ?_; clear hF; intro wa ba hF)) | (refine T.is ?_; first | refine T.seq ?_ | refine T.region ?_ | refine T.block ?_ | refine T.cond_t rfl ?_ | refine T.cond_f rfl ?_ | refine T.exit ?_ | refine T.ret ?_ | refine T.skip ?_ | refine T.regionQ mixed (by kernel_rfl) ?_) | (refine G.is ?_; first | refine G.next ?_ | refine G.blockN ?_ | refine G.blockE ?_ | refine G.blockE' rfl ?_ | refine G.blockR ?_ | refine G.thenE ?_ | refine G.thenR ?_ | refine G.only ?_) | refine TL.nil ?_ | (refine TL.nilFr hF ?_; clear hF; intro wq hF))
  have hF1 := hF.vbSm hc1
  clear hF
  have hF := hF1.weak (D := [dpMp intk slc3 mb [], dpGv ls, dpSmG 4 plc (some ⟨bl, 0, none⟩) ls.length cl ls]) (List.Sublist.refl _) (allH (by repeat (first | exact memH | apply memT)) (allH (by repeat (first | exact memH | apply memT)) (allH (by repeat (first | exact memH | apply memT)) allN)))
  clear hF1
  refine T.loop (α := List RW × CW) (fun x => [(3, .map (some mb)), (8, .slice (some ⟨bl, 0, none⟩) ls.length cl), (9, .int .i64 (ls.length : Int)), (10, .int .i64 ((rowsG x.1 ++ curG x.2).length : Int))])
    (fun x w' => (rowsG x.1 ++ curG x.2 = ls.take (rowsG x.1 ++ curG x.2).length ∧ (∀ r ∈ x.1, rowOk r) ∧ curK x.2 ∧ (x.2 = none → x.1 = []) ∧ (∀ k gl, x.2 = some (k, gl) → ∀ r ∈ x.1, r.1 < k) ∧ ∀ r ∈ x.1, ∀ k, fpA r.2.1.1 r.2.1.2.1 k → w.heap.size ≤ k) ∧ Fr w w' (curL x.2) [dpMp intk slc3 mb (rowsM x.1 ++ curM x.2), dpRW x.1, dpSmG 4 plc (some ⟨bl, 0, none⟩) ls.length cl ls, dpGv ls]) (fun x => ls.length - (rowsG x.1 ++ curG x.2).length) ([], none) (by repeat (first | exact Sub.nil _ | refine Sub.cons rfl ?_ | refine Sub.cons' rfl (int_congr (by omega)) ?_)) ⟨⟨rfl, fun r hr => (by cases hr), trivial, fun _ => rfl, fun k gl h => (by cases h), fun r hr => (by cases hr)⟩, by
      have h0 : Fr w wy [] (dpRW [] :: _) _ := hF.add (dpRW []) (fun r hr => by cases hr) fun v hv => (by cases hv)
      exact h0.weak (List.Sublist.refl _) (allH (by repeat (first | exact memH | apply memT)) (allH (by repeat (first | exact memH | apply memT)) (allH (by repeat (first | exact memH | apply memT)) (allH (by repeat (first | exact memH | apply memT)) allN))))⟩ ?_
  clear hF
  rintro ⟨R, cur⟩ w1 ⟨⟨htk, hrk, hck, hcn, hlt, hfr⟩, hF⟩
  dsimp only at htk hrk hck hcn hlt hfr hF ⊢
  generalize hk : (rowsG R ++ curG cur).length = k at htk ⊢
  have hkl : k ≤ ls.length := by rw [← hk, htk, List.length_take]; omega
  rcases Nat.lt_or_ge k ls.length with hkn | hkn
  · obtain ⟨p, hp⟩ : ∃ p, ls[k]? = some p := ⟨_, List.getElem?_eq_getElem hkn⟩
    have hstep : ∀ (R' : List RW) (cur' : CW), rowsG R' ++ curG cur' = (rowsG R ++ curG cur) ++ [p] → (rowsG R' ++ curG cur').length = k + 1 ∧ rowsG R' ++ curG cur' = ls.take (k + 1) := fun R' cur' e => by
      rw [e, List.length_append, hk, take_snoc hp, htk]; exact ⟨rfl, rfl⟩
    have hkb : k + 1 < 9223372036854775808 := by omega
    rcases cur with _ | ⟨key, gl, b, cc, zs⟩
    · obtain rfl := hcn rfl
      have hno : lkp (rowsM [] ++ curM none) p.1.1 = none := rfl
      repeat' (first | (refine TL.isOp ?_; first | (refine TL.isG ?_; first | refine TL.grun rfl rfl rfl ?_ | refine TL.gskip rfl rfl rfl rfl ?_ | refine TL.gskipU rfl rfl rfl ?_) | (refine TL.isBin ?_; refine TL.cmpG rfl rfl rfl rfl (fun hc => ?_) (fun hc => ?_) <;> (try (first | (exfalso; omega) | exact absurd rfl hc))) | (apply TL.ev; (case hd => rfl); (case h => (first | exact ev_simple rfl | (apply Ev.isBin; first | exact ev_arN rfl rfl rfl (by omega) | exact ev_arI rfl rfl rfl (by omega) | exact ev_eqlB (r := true) rfl rfl rfl | exact ev_eqlB (r := false) rfl rfl rfl | exact ev_neqB (r := true) rfl rfl rfl | exact ev_neqB (r := false) rfl rfl rfl) | (apply Ev.isLoad; first | exact ev_loadFr hF rfl (by refine ⟨?_, ?_⟩; (focus (repeat (first | exact InV.head | apply InV.tail))); rfl) | exact ev_loadAFr hF rfl (by refine ⟨?_, ?_⟩; (focus (repeat (first | exact InV.head | apply InV.tail))); rfl) | exact ev_loadMc [.int .i64 p.1.1, .int .i64 p.1.2, .bool p.2.neg, .slice p.2.m.A p.2.m.n p.2.m.c] rfl (Fr.smG hF (l := ls) (by repeat (first | exact memH | apply memT))) hp rfl) | exact ev_len rfl | exact ev_fieldAddr rfl | exact ev_field rfl rfl | exact ev_fieldA rfl rfl | exact ev_buildX rfl rfl | exact ev_makeFunc rfl | exact ev_nilCheck rfl | exact ev_neg rfl (by omega) | exact ev_cap rfl | exact ev_indexM rfl rfl hkn (.inr rfl) | exact ev_mlookN hF (y := p.1.1) rfl rfl (by repeat (first | exact memH | apply memT)) hno))) | (refine TL.storeAFr hF rfl rfl rfl rfl (by refine ⟨?_, ?_⟩; (focus (repeat (first | apply SetV.head | apply SetV.tail))); rfl) rfl ?_; clear hF; intro ws hF) | (refine TL.storeFr hF rfl rfl rfl rfl (by refine ⟨?_, ?_⟩; (focus (repeat (first | apply SetV.head | apply SetV.tail))); rfl) rfl ?_; clear hF; intro ws hF) | (refine TL.allocFr hF (d := 5) rfl rfl ?_; clear hF; intro w5 b5 hF) | (refine TL.buildXs hF (f := plc) (d := 22) [p] [.tmp 21] rfl rfl rfl rfl (by intro u hu; rfl) rfl rfl (by omega) (by omega) ?_; clear hF; intro w22 b22 hF hEn hbn hSn) | (refine TL.appendNewFr hF plc rfl rfl rfl rfl hSn (fun _ => rfl) rfl rfl (by omega) (fun h0 => absurd h0 (by omega)) ?_; clear hF hSn; intro _ wa ba ca za hca hza hzan hF) | (refine TL.mupd hF (.inl h6) (nfC (hF.rw_mp (by repeat (first | exact memH | apply memT)) (by repeat (first | exact memH | apply memT))) (nfC (nf_smG (hF.sm_mp (by repeat (first | exact memH | apply memT)) (by repeat (first | exact memH | apply memT)))) (nfC nf_gv nfN))) (q := p.1.1) (v := (some ⟨ba, 0, none⟩, 1, ca)) rfl rfl rfl ?_; clear hF; intro wu hF) | (refine TL.boxAFr hF rfl rfl ?_; clear hF; intro wb bb hF) | (refine TL.boxFr hF rfl rfl ?_; clear hF; intro wb bb hF) | (refine TL.allocFr hF rfl rfl ?_; clear hF; intro wa ba hF)) | (refine TF.is ?_; first | refine TF.nil ?_ | refine TF.e rfl ?_ | refine TF.alt ?_ ?_ | (refine TF.pick rfl ?_; first | (refine TFo.cmpG rfl rfl rfl rfl (fun hc => ?_) (fun hc => ?_) <;> (try (first | (exfalso; omega) | exact absurd rfl hc))) | (refine TFo.cmpGg rfl rfl rfl rfl rfl rfl rfl (fun hc => ?_) (fun hc => ?_) <;> (try (first | (exfalso; omega) | exact absurd rfl hc))) | (apply TFo.ev; (case hd => rfl); (case h => (intro wh hF; first | exact ev_simple rfl | (apply Ev.isBin; first | exact ev_arN rfl rfl rfl (by omega) | exact ev_arI rfl rfl rfl (by omega) | exact ev_eqlB (r := true) rfl rfl rfl | exact ev_eqlB (r := false) rfl rfl rfl | exact ev_neqB (r := true) rfl rfl rfl | exact ev_neqB (r := false) rfl rfl rfl) | (apply Ev.isLoad; first | exact ev_loadFr hF rfl (by refine ⟨?_, ?_⟩; (focus (repeat (first | exact InV.head | apply InV.tail))); rfl) | exact ev_loadAFr hF rfl (by refine ⟨?_, ?_⟩; (focus (repeat (first | exact InV.head | apply InV.tail))); rfl) | exact ev_loadMc [.int .i64 p.1.1, .int .i64 p.1.2, .bool p.2.neg, .slice p.2.m.A p.2.m.n p.2.m.c] rfl (Fr.smG hF (l := ls) (by repeat (first | exact memH | apply memT))) hp rfl) | exact ev_len rfl | exact ev_fieldAddr rfl | exact ev_field rfl rfl | exact ev_fieldA rfl rfl | exact ev_buildX rfl rfl | exact ev_makeFunc rfl | exact ev_nilCheck rfl | exact ev_neg rfl (by omega) | exact ev_cap rfl | exact ev_indexM rfl rfl hkn (.inr rfl) | exact ev_mlookN hF (y := p.1.1) rfl rfl (by repeat (first | exact memH | apply memT)) hno))) | (apply TFo.evg rfl rfl rfl; (case hd => rfl); (case h => (intro wh hF; first | exact ev_simple rfl | (apply Ev.isBin; first | exact ev_arN rfl rfl rfl (by omega) | exact ev_arI rfl rfl rfl (by omega) | exact ev_eqlB (r := true) rfl rfl rfl | exact ev_eqlB (r := false) rfl rfl rfl | exact ev_neqB (r := true) rfl rfl rfl | exact ev_neqB (r := false) rfl rfl rfl) | (apply Ev.isLoad; first | exact ev_loadFr hF rfl (by refine ⟨?_, ?_⟩; (focus (repeat (first | exact InV.head | apply InV.tail))); rfl) | exact ev_loadAFr hF rfl (by refine ⟨?_, ?_⟩; (focus (repeat (first | exact InV.head | apply InV.tail))); rfl) | exact ev_loadMc [.int .i64 p.1.1, .int .i64 p.1.2, .bool p.2.neg, .slice p.2.m.A p.2.m.n p.2.m.c] rfl (Fr.smG hF (l := ls) (by repeat (first | exact memH | apply memT))) hp rfl) | exact ev_len rfl | exact ev_fieldAddr rfl | exact ev_field rfl rfl | exact ev_fieldA rfl rfl | exact ev_buildX rfl rfl | exact ev_makeFunc rfl | exact ev_nilCheck rfl | exact ev_neg rfl (by omega) | exact ev_cap rfl | exact ev_indexM rfl rfl hkn (.inr rfl) | exact ev_mlookN hF (y := p.1.1) rfl rfl (by repeat (first | exact memH | apply memT)) hno))) | refine TFo.skip rfl rfl rfl rfl ?_ | refine TFo.skipU rfl rfl rfl ?_)) | (refine T.is ?_; first | refine T.seq ?_ | refine T.region ?_ | refine T.block ?_ | refine T.cond_t rfl ?_ | refine T.cond_f rfl ?_ | refine T.exit ?_ | refine T.ret ?_ | refine T.skip ?_ | (refine T.regionFr hF 5 10 (.s 0 (.s 1 (.s 2 (.s 3 (.s 4 (.s 5 (.s 7 (.alt (.e 6 (.e 8 (.e 9 (.e 10 .nil)))) (.e 8 (.e 6 (.e 9 (.e 10 .nil)))))))))))) mixed (by kernel_rfl) ?_; clear hF; intro wr hF) | refine T.regionQ mixed (by kernel_rfl) ?_) | (refine G.is ?_; first | refine G.next ?_ | refine G.blockN ?_ | refine G.blockE ?_ | refine G.blockE' rfl ?_ | refine G.blockR ?_ | refine G.thenE ?_ | refine G.thenR ?_ | refine G.only ?_ | refine G.treeEnd rfl ?_ | refine G.tree rfl (by first | exact hF | exact hF.weak (List.sublist_append_right _ _) (by repeat (first | exact allR | apply allT)) | exact hF.weak (by repeat (first | exact List.Sublist.refl _ | apply List.Sublist.cons)) (by repeat (first | exact allR | apply allT)) | exact hF.weak (by repeat (first | exact List.Sublist.refl _ | apply List.Sublist.cons)) (by repeat (first | exact allN | refine allH (by repeat (first | exact memH | apply memT)) ?_))) ?_) | refine TL.nil ?_ | (refine TL.nilFr hF ?_; clear hF; intro wq hF))
      all_goals
        obtain ⟨e1, e2⟩ := hstep [] (some (p.1.1, [p], ba, ca, za)) rfl
        refine G.again ([], some (p.1.1, [p], ba, ca, za)) (by dsimp only; rw [e1]; exact (by repeat (first | exact Sub.nil _ | refine Sub.cons rfl ?_ | refine Sub.cons' rfl (int_congr (by omega)) ?_))) ⟨⟨by dsimp only; rw [e1]; exact e2, fun r hr => (by cases hr), ⟨Nat.one_pos, hca, hza, hzan, fun q hq => by simp only [List.mem_cons, List.not_mem_nil, or_false] at hq; rw [hq]⟩, fun h => (by cases h), fun k gl _ r hr => (by cases hr), hfr⟩, hF.weak (.cons_cons _ (List.nil_sublist _)) (allH (by repeat (first | exact memH | apply memT)) (allH (by repeat (first | exact memH | apply memT)) (allH (by repeat (first | exact memH | apply memT)) (allH (by repeat (first | exact memH | apply memT)) allN))))⟩ (by dsimp only; rw [e1]; omega)
    · obtain ⟨hc1', hc2', hc3', hc4', hc5'⟩ := hck
      have hlt' := hlt key (gl, b, cc, zs) rfl
      have hnk : key ∉ (rowsM R).map (·.1) := fun hm => by
        obtain ⟨q, hq, e⟩ := List.mem_map.1 hm
        obtain ⟨r, hr, rfl⟩ := List.mem_map.1 hq
        have := hlt' r hr
        dsimp only at e
        omega
      by_cases hky : p.1.1 = key
      · have hyes : lkp (rowsM R ++ curM (some (key, gl, b, cc, zs))) p.1.1 = some (some ⟨b, 0, none⟩, gl.length, cc) := by
          rw [lkp_app, hky, lkp_none.2 hnk]; simp [curM, lkp]
        have hup : ∀ v, ups (rowsM R ++ curM (some (key, gl, b, cc, zs))) p.1.1 v = rowsM R ++ [(key, v)] := fun v => by rw [hky]; exact ups_last hnk v
        have hgl : gl.length ≤ k := by rw [← hk, List.length_append]; exact Nat.le_add_left _ _
        repeat' (first | (refine TL.isOp ?_; first | (refine TL.isG ?_; first | refine TL.grun rfl rfl rfl ?_ | refine TL.gskip rfl rfl rfl rfl ?_ | refine TL.gskipU rfl rfl rfl ?_) | (refine TL.isBin ?_; refine TL.cmpG rfl rfl rfl rfl (fun hc => ?_) (fun hc => ?_) <;> (try (first | (exfalso; omega) | exact absurd rfl hc))) | (apply TL.ev; (case hd => rfl); (case h => (first | exact ev_simple rfl | (apply Ev.isBin; first | exact ev_arN rfl rfl rfl (by omega) | exact ev_arI rfl rfl rfl (by omega) | exact ev_eqlB (r := true) rfl rfl rfl | exact ev_eqlB (r := false) rfl rfl rfl | exact ev_neqB (r := true) rfl rfl rfl | exact ev_neqB (r := false) rfl rfl rfl) | (apply Ev.isLoad; first | exact ev_loadFr hF rfl (by refine ⟨?_, ?_⟩; (focus (repeat (first | exact InV.head | apply InV.tail))); rfl) | exact ev_loadAFr hF rfl (by refine ⟨?_, ?_⟩; (focus (repeat (first | exact InV.head | apply InV.tail))); rfl) | exact ev_loadMc [.int .i64 p.1.1, .int .i64 p.1.2, .bool p.2.neg, .slice p.2.m.A p.2.m.n p.2.m.c] rfl (Fr.smG hF (l := ls) (by repeat (first | exact memH | apply memT))) hp rfl) | exact ev_len rfl | exact ev_fieldAddr rfl | exact ev_field rfl rfl | exact ev_fieldA rfl rfl | exact ev_buildX rfl rfl | exact ev_makeFunc rfl | exact ev_nilCheck rfl | exact ev_neg rfl (by omega) | exact ev_cap rfl | exact ev_indexM rfl rfl hkn (.inr rfl) | exact ev_mlookS hF (y := p.1.1) rfl rfl (by repeat (first | exact memH | apply memT)) hyes))) | (refine TL.storeAFr hF rfl rfl rfl rfl (by refine ⟨?_, ?_⟩; (focus (repeat (first | apply SetV.head | apply SetV.tail))); rfl) rfl ?_; clear hF; intro ws hF) | (refine TL.storeFr hF rfl rfl rfl rfl (by refine ⟨?_, ?_⟩; (focus (repeat (first | apply SetV.head | apply SetV.tail))); rfl) rfl ?_; clear hF; intro ws hF) | (refine TL.allocFr hF (d := 5) rfl rfl ?_; clear hF; intro w5 b5 hF) | (refine TL.buildXs hF (f := plc) (d := 22) [p] [.tmp 21] rfl rfl rfl rfl (by intro u hu; rfl) rfl rfl (by omega) (by omega) ?_; clear hF; intro w22 b22 hF hEn hbn hSn) | (refine TL.appendAtFr (f := plc) (l := gl) (zs := zs) hF rfl rfl rfl rfl hSn (fun _ => rfl) (fun _ => rfl) rfl rfl rfl hc3' hc2' (plc_no _ hc4') (by omega) (by repeat (first | exact SetV.head | apply SetV.tail)) (fun hle wa hFn => ?_) (fun hgt wa ba ca za hca hza hzan hFn => ?_) <;> clear hF hSn <;> have hF := hFn <;> clear hFn) | (refine TL.mupd hF (.inl h6) (nfC (hF.rw_mp (by repeat (first | exact memH | apply memT)) (by repeat (first | exact memH | apply memT))) (nfC (nf_smG (hF.sm_mp (by repeat (first | exact memH | apply memT)) (by repeat (first | exact memH | apply memT)))) (nfC nf_gv nfN))) (q := p.1.1) (v := (some ⟨b, 0, none⟩, gl.length + 1, cc)) rfl rfl rfl ?_; clear hF; intro wu hF) | (refine TL.mupd hF (.inl h6) (nfC (hF.rw_mp (by repeat (first | exact memH | apply memT)) (by repeat (first | exact memH | apply memT))) (nfC (nf_smG (hF.sm_mp (by repeat (first | exact memH | apply memT)) (by repeat (first | exact memH | apply memT)))) (nfC nf_gv nfN))) (q := p.1.1) (v := (some ⟨ba, 0, none⟩, gl.length + 1, ca)) rfl rfl rfl ?_; clear hF; intro wu hF) | (refine TL.boxAFr hF rfl rfl ?_; clear hF; intro wb bb hF) | (refine TL.boxFr hF rfl rfl ?_; clear hF; intro wb bb hF) | (refine TL.allocFr hF rfl rfl ?_; clear hF; intro wa ba hF)) | (refine TF.is ?_; first | refine TF.nil ?_ | refine TF.e rfl ?_ | refine TF.alt ?_ ?_ | (refine TF.pick rfl ?_; first | (refine TFo.cmpG rfl rfl rfl rfl (fun hc => ?_) (fun hc => ?_) <;> (try (first | (exfalso; omega) | exact absurd rfl hc))) | (refine TFo.cmpGg rfl rfl rfl rfl rfl rfl rfl (fun hc => ?_) (fun hc => ?_) <;> (try (first | (exfalso; omega) | exact absurd rfl hc))) | (apply TFo.ev; (case hd => rfl); (case h => (intro wh hF; first | exact ev_simple rfl | (apply Ev.isBin; first | exact ev_arN rfl rfl rfl (by omega) | exact ev_arI rfl rfl rfl (by omega) | exact ev_eqlB (r := true) rfl rfl rfl | exact ev_eqlB (r := false) rfl rfl rfl | exact ev_neqB (r := true) rfl rfl rfl | exact ev_neqB (r := false) rfl rfl rfl) | (apply Ev.isLoad; first | exact ev_loadFr hF rfl (by refine ⟨?_, ?_⟩; (focus (repeat (first | exact InV.head | apply InV.tail))); rfl) | exact ev_loadAFr hF rfl (by refine ⟨?_, ?_⟩; (focus (repeat (first | exact InV.head | apply InV.tail))); rfl) | exact ev_loadMc [.int .i64 p.1.1, .int .i64 p.1.2, .bool p.2.neg, .slice p.2.m.A p.2.m.n p.2.m.c] rfl (Fr.smG hF (l := ls) (by repeat (first | exact memH | apply memT))) hp rfl) | exact ev_len rfl | exact ev_fieldAddr rfl | exact ev_field rfl rfl | exact ev_fieldA rfl rfl | exact ev_buildX rfl rfl | exact ev_makeFunc rfl | exact ev_nilCheck rfl | exact ev_neg rfl (by omega) | exact ev_cap rfl | exact ev_indexM rfl rfl hkn (.inr rfl) | exact ev_mlookS hF (y := p.1.1) rfl rfl (by repeat (first | exact memH | apply memT)) hyes))) | (apply TFo.evg rfl rfl rfl; (case hd => rfl); (case h => (intro wh hF; first | exact ev_simple rfl | (apply Ev.isBin; first | exact ev_arN rfl rfl rfl (by omega) | exact ev_arI rfl rfl rfl (by omega) | exact ev_eqlB (r := true) rfl rfl rfl | exact ev_eqlB (r := false) rfl rfl rfl | exact ev_neqB (r := true) rfl rfl rfl | exact ev_neqB (r := false) rfl rfl rfl) | (apply Ev.isLoad; first | exact ev_loadFr hF rfl (by refine ⟨?_, ?_⟩; (focus (repeat (first | exact InV.head | apply InV.tail))); rfl) | exact ev_loadAFr hF rfl (by refine ⟨?_, ?_⟩; (focus (repeat (first | exact InV.head | apply InV.tail))); rfl) | exact ev_loadMc [.int .i64 p.1.1, .int .i64 p.1.2, .bool p.2.neg, .slice p.2.m.A p.2.m.n p.2.m.c] rfl (Fr.smG hF (l := ls) (by repeat (first | exact memH | apply memT))) hp rfl) | exact ev_len rfl | exact ev_fieldAddr rfl | exact ev_field rfl rfl | exact ev_fieldA rfl rfl | exact ev_buildX rfl rfl | exact ev_makeFunc rfl | exact ev_nilCheck rfl | exact ev_neg rfl (by omega) | exact ev_cap rfl | exact ev_indexM rfl rfl hkn (.inr rfl) | exact ev_mlookS hF (y := p.1.1) rfl rfl (by repeat (first | exact memH | apply memT)) hyes))) | refine TFo.skip rfl rfl rfl rfl ?_ | refine TFo.skipU rfl rfl rfl ?_)) | (refine T.is ?_; first | refine T.seq ?_ | refine T.region ?_ | refine T.block ?_ | refine T.cond_t rfl ?_ | refine T.cond_f rfl ?_ | refine T.exit ?_ | refine T.ret ?_ | refine T.skip ?_ | (refine T.regionFt hF.swap 5 10 (.s 0 (.s 1 (.s 2 (.s 3 (.s 4 (.s 5 (.s 7 (.alt (.e 6 (.e 8 (.e 9 (.e 10 .nil)))) (.e 8 (.e 6 (.e 9 (.e 10 .nil)))))))))))) mixed (by kernel_rfl) ?_; clear hF; intro wr hF) | refine T.regionQ mixed (by kernel_rfl) ?_) | (refine G.is ?_; first | refine G.next ?_ | refine G.blockN ?_ | refine G.blockE ?_ | refine G.blockE' rfl ?_ | refine G.blockR ?_ | refine G.thenE ?_ | refine G.thenR ?_ | refine G.only ?_ | refine G.treeEnd rfl ?_ | refine G.tree rfl (by first | exact hF | exact hF.weak (List.sublist_append_right _ _) (by repeat (first | exact allR | apply allT)) | exact hF.weak (by repeat (first | exact List.Sublist.refl _ | apply List.Sublist.cons)) (by repeat (first | exact allR | apply allT)) | exact hF.weak (by repeat (first | exact List.Sublist.refl _ | apply List.Sublist.cons)) (by repeat (first | exact allN | refine allH (by repeat (first | exact memH | apply memT)) ?_))) ?_) | refine TL.nil ?_ | (refine TL.nilFr hF ?_; clear hF; intro wq hF))
        all_goals
          first
          | (obtain ⟨e1, e2⟩ := hstep R (some (key, gl ++ [p], b, cc, zs.drop (1 * 4))) (by simp only [curG, List.append_assoc])
             rw [hup] at hF
             have hgp : (gl ++ [p]).length = gl.length + 1 := by simp
             refine G.again (R, some (key, gl ++ [p], b, cc, zs.drop (1 * 4))) (by dsimp only; rw [e1]; exact (by repeat (first | exact Sub.nil _ | refine Sub.cons rfl ?_ | refine Sub.cons' rfl (int_congr (by omega)) ?_))) ⟨⟨by dsimp only; rw [e1]; exact e2, hrk, ⟨by rw [hgp]; omega, by rw [hgp]; exact hle, by rw [List.length_drop, hgp, hc3']; omega, drop_noV hc4' _, fun q hq => by
               rcases List.mem_append.1 hq with hq | hq
               · exact hc5' q hq
               · simp only [List.mem_cons, List.not_mem_nil, or_false] at hq
                 rw [hq]; exact hky⟩, fun h => (by cases h), fun k gl2 e r hr => by simp only [Option.some.injEq, Prod.mk.injEq] at e; rw [← e.1]; exact hlt' r hr, hfr⟩, ?_⟩ (by dsimp only; rw [e1]; omega)
             have hF2 := hF.weak (L := [⟨b, 46, (gl ++ [p]).flatMap plc ++ zs.drop (1 * 4)⟩]) (D := [dpMp intk slc3 mb (rowsM R ++ [(key, (some ⟨b, 0, none⟩, gl.length + 1, cc))]), dpRW R, dpSmG 4 plc (some ⟨bl, 0, none⟩) ls.length cl ls, dpGv ls]) (.cons_cons _ (List.nil_sublist _)) (allH (by repeat (first | exact memH | apply memT)) (allH (by repeat (first | exact memH | apply memT)) (allH (by repeat (first | exact memH | apply memT)) (allH (by repeat (first | exact memH | apply memT)) allN))))
             dsimp only [curL, curM]
             rw [hgp]
             exact hF2)
          | (obtain ⟨e1, e2⟩ := hstep R (some (key, gl ++ [p], ba, ca, za)) (by simp only [curG, List.append_assoc])
             rw [hup] at hF
             have hgp : (gl ++ [p]).length = gl.length + 1 := by simp
             refine G.again (R, some (key, gl ++ [p], ba, ca, za)) (by dsimp only; rw [e1]; exact (by repeat (first | exact Sub.nil _ | refine Sub.cons rfl ?_ | refine Sub.cons' rfl (int_congr (by omega)) ?_))) ⟨⟨by dsimp only; rw [e1]; exact e2, hrk, ⟨by rw [hgp]; omega, by rw [hgp]; exact hca, by rw [hgp]; exact hza, hzan, fun q hq => by
               rcases List.mem_append.1 hq with hq | hq
               · exact hc5' q hq
               · simp only [List.mem_cons, List.not_mem_nil, or_false] at hq
                 rw [hq]; exact hky⟩, fun h => (by cases h), fun k gl2 e r hr => by simp only [Option.some.injEq, Prod.mk.injEq] at e; rw [← e.1]; exact hlt' r hr, hfr⟩, ?_⟩ (by dsimp only; rw [e1]; omega)
             have hF2 := hF.weak (L := [⟨ba, 46, (gl ++ [p]).flatMap plc ++ za⟩]) (D := [dpMp intk slc3 mb (rowsM R ++ [(key, (some ⟨ba, 0, none⟩, gl.length + 1, ca))]), dpRW R, dpSmG 4 plc (some ⟨bl, 0, none⟩) ls.length cl ls, dpGv ls]) (.cons_cons _ (List.nil_sublist _)) (allH (by repeat (first | exact memH | apply memT)) (allH (by repeat (first | exact memH | apply memT)) (allH (by repeat (first | exact memH | apply memT)) (allH (by repeat (first | exact memH | apply memT)) allN))))
             dsimp only [curL, curM]
             rw [hgp]
             exact hF2)
      · have hkp : key < p.1.1 := by
          obtain ⟨q, hq⟩ : ∃ q, q ∈ gl := ⟨gl[0], List.getElem_mem hc1'⟩
          have h1 : q ∈ ls.take k := by rw [← htk]; exact List.mem_append_right _ hq
          have h2 := sorted_take hso hp h1
          have h3 := hc5' q hq
          unfold plt at h2
          omega
        have hno : lkp (rowsM R ++ curM (some (key, gl, b, cc, zs))) p.1.1 = none := lkp_none.2 fun hm => by
          rw [List.map_append] at hm
          rcases List.mem_append.1 hm with hm | hm
          · obtain ⟨q, hq, e⟩ := List.mem_map.1 hm
            obtain ⟨r, hr, rfl⟩ := List.mem_map.1 hq
            have := hlt' r hr
            dsimp only at e
            omega
          · simp only [curM, List.map_cons, List.map_nil, List.mem_cons, List.not_mem_nil, or_false] at hm
            omega
        have hup : ∀ v, ups (rowsM R ++ curM (some (key, gl, b, cc, zs))) p.1.1 v = rowsM (R ++ [(key, (some ⟨b, 0, none⟩, gl.length, cc), gl)]) ++ [(p.1.1, v)] := fun v => by
          rw [ups_new (lkp_none.1 hno) v]; simp [rowsM, curM]
        repeat' (first | (refine TL.isOp ?_; first | (refine TL.isG ?_; first | refine TL.grun rfl rfl rfl ?_ | refine TL.gskip rfl rfl rfl rfl ?_ | refine TL.gskipU rfl rfl rfl ?_) | (refine TL.isBin ?_; refine TL.cmpG rfl rfl rfl rfl (fun hc => ?_) (fun hc => ?_) <;> (try (first | (exfalso; omega) | exact absurd rfl hc))) | (apply TL.ev; (case hd => rfl); (case h => (first | exact ev_simple rfl | (apply Ev.isBin; first | exact ev_arN rfl rfl rfl (by omega) | exact ev_arI rfl rfl rfl (by omega) | exact ev_eqlB (r := true) rfl rfl rfl | exact ev_eqlB (r := false) rfl rfl rfl | exact ev_neqB (r := true) rfl rfl rfl | exact ev_neqB (r := false) rfl rfl rfl) | (apply Ev.isLoad; first | exact ev_loadFr hF rfl (by refine ⟨?_, ?_⟩; (focus (repeat (first | exact InV.head | apply InV.tail))); rfl) | exact ev_loadAFr hF rfl (by refine ⟨?_, ?_⟩; (focus (repeat (first | exact InV.head | apply InV.tail))); rfl) | exact ev_loadMc [.int .i64 p.1.1, .int .i64 p.1.2, .bool p.2.neg, .slice p.2.m.A p.2.m.n p.2.m.c] rfl (Fr.smG hF (l := ls) (by repeat (first | exact memH | apply memT))) hp rfl) | exact ev_len rfl | exact ev_fieldAddr rfl | exact ev_field rfl rfl | exact ev_fieldA rfl rfl | exact ev_buildX rfl rfl | exact ev_makeFunc rfl | exact ev_nilCheck rfl | exact ev_neg rfl (by omega) | exact ev_cap rfl | exact ev_indexM rfl rfl hkn (.inr rfl) | exact ev_mlookN hF (y := p.1.1) rfl rfl (by repeat (first | exact memH | apply memT)) hno))) | (refine TL.storeAFr hF rfl rfl rfl rfl (by refine ⟨?_, ?_⟩; (focus (repeat (first | apply SetV.head | apply SetV.tail))); rfl) rfl ?_; clear hF; intro ws hF) | (refine TL.storeFr hF rfl rfl rfl rfl (by refine ⟨?_, ?_⟩; (focus (repeat (first | apply SetV.head | apply SetV.tail))); rfl) rfl ?_; clear hF; intro ws hF) | (refine TL.allocFr hF (d := 5) rfl rfl ?_; clear hF; intro w5 b5 hF) | (refine TL.buildXs hF (f := plc) (d := 22) [p] [.tmp 21] rfl rfl rfl rfl (by intro u hu; rfl) rfl rfl (by omega) (by omega) ?_; clear hF; intro w22 b22 hF hEn hbn hSn) | (refine TL.appendNewFr hF plc rfl rfl rfl rfl hSn (fun _ => rfl) rfl rfl (by omega) (fun h0 => absurd h0 (by omega)) ?_; clear hF hSn; intro _ wa ba ca za hca hza hzan hF) | (refine TL.mupd hF (.inl h6) (nfC (hF.rw_mp (by repeat (first | exact memH | apply memT)) (by repeat (first | exact memH | apply memT))) (nfC (nf_smG (hF.sm_mp (by repeat (first | exact memH | apply memT)) (by repeat (first | exact memH | apply memT)))) (nfC nf_gv nfN))) (q := p.1.1) (v := (some ⟨ba, 0, none⟩, 1, ca)) rfl rfl rfl ?_; clear hF; intro wu hF) | (refine TL.boxAFr hF rfl rfl ?_; clear hF; intro wb bb hF) | (refine TL.boxFr hF rfl rfl ?_; clear hF; intro wb bb hF) | (refine TL.allocFr hF rfl rfl ?_; clear hF; intro wa ba hF)) | (refine TF.is ?_; first | refine TF.nil ?_ | refine TF.e rfl ?_ | refine TF.alt ?_ ?_ | (refine TF.pick rfl ?_; first | (refine TFo.cmpG rfl rfl rfl rfl (fun hc => ?_) (fun hc => ?_) <;> (try (first | (exfalso; omega) | exact absurd rfl hc))) | (refine TFo.cmpGg rfl rfl rfl rfl rfl rfl rfl (fun hc => ?_) (fun hc => ?_) <;> (try (first | (exfalso; omega) | exact absurd rfl hc))) | (apply TFo.ev; (case hd => rfl); (case h => (intro wh hF; first | exact ev_simple rfl | (apply Ev.isBin; first | exact ev_arN rfl rfl rfl (by omega) | exact ev_arI rfl rfl rfl (by omega) | exact ev_eqlB (r := true) rfl rfl rfl | exact ev_eqlB (r := false) rfl rfl rfl | exact ev_neqB (r := true) rfl rfl rfl | exact ev_neqB (r := false) rfl rfl rfl) | (apply Ev.isLoad; first | exact ev_loadFr hF rfl (by refine ⟨?_, ?_⟩; (focus (repeat (first | exact InV.head | apply InV.tail))); rfl) | exact ev_loadAFr hF rfl (by refine ⟨?_, ?_⟩; (focus (repeat (first | exact InV.head | apply InV.tail))); rfl) | exact ev_loadMc [.int .i64 p.1.1, .int .i64 p.1.2, .bool p.2.neg, .slice p.2.m.A p.2.m.n p.2.m.c] rfl (Fr.smG hF (l := ls) (by repeat (first | exact memH | apply memT))) hp rfl) | exact ev_len rfl | exact ev_fieldAddr rfl | exact ev_field rfl rfl | exact ev_fieldA rfl rfl | exact ev_buildX rfl rfl | exact ev_makeFunc rfl | exact ev_nilCheck rfl | exact ev_neg rfl (by omega) | exact ev_cap rfl | exact ev_indexM rfl rfl hkn (.inr rfl) | exact ev_mlookN hF (y := p.1.1) rfl rfl (by repeat (first | exact memH | apply memT)) hno))) | (apply TFo.evg rfl rfl rfl; (case hd => rfl); (case h => (intro wh hF; first | exact ev_simple rfl | (apply Ev.isBin; first | exact ev_arN rfl rfl rfl (by omega) | exact ev_arI rfl rfl rfl (by omega) | exact ev_eqlB (r := true) rfl rfl rfl | exact ev_eqlB (r := false) rfl rfl rfl | exact ev_neqB (r := true) rfl rfl rfl | exact ev_neqB (r := false) rfl rfl rfl) | (apply Ev.isLoad; first | exact ev_loadFr hF rfl (by refine ⟨?_, ?_⟩; (focus (repeat (first | exact InV.head | apply InV.tail))); rfl) | exact ev_loadAFr hF rfl (by refine ⟨?_, ?_⟩; (focus (repeat (first | exact InV.head | apply InV.tail))); rfl) | exact ev_loadMc [.int .i64 p.1.1, .int .i64 p.1.2, .bool p.2.neg, .slice p.2.m.A p.2.m.n p.2.m.c] rfl (Fr.smG hF (l := ls) (by repeat (first | exact memH | apply memT))) hp rfl) | exact ev_len rfl | exact ev_fieldAddr rfl | exact ev_field rfl rfl | exact ev_fieldA rfl rfl | exact ev_buildX rfl rfl | exact ev_makeFunc rfl | exact ev_nilCheck rfl | exact ev_neg rfl (by omega) | exact ev_cap rfl | exact ev_indexM rfl rfl hkn (.inr rfl) | exact ev_mlookN hF (y := p.1.1) rfl rfl (by repeat (first | exact memH | apply memT)) hno))) | refine TFo.skip rfl rfl rfl rfl ?_ | refine TFo.skipU rfl rfl rfl ?_)) | (refine T.is ?_; first | refine T.seq ?_ | refine T.region ?_ | refine T.block ?_ | refine T.cond_t rfl ?_ | refine T.cond_f rfl ?_ | refine T.exit ?_ | refine T.ret ?_ | refine T.skip ?_ | (refine T.regionFr hF 5 10 (.s 0 (.s 1 (.s 2 (.s 3 (.s 4 (.s 5 (.s 7 (.alt (.e 6 (.e 8 (.e 9 (.e 10 .nil)))) (.e 8 (.e 6 (.e 9 (.e 10 .nil)))))))))))) mixed (by kernel_rfl) ?_; clear hF; intro wr hF) | refine T.regionQ mixed (by kernel_rfl) ?_) | (refine G.is ?_; first | refine G.next ?_ | refine G.blockN ?_ | refine G.blockE ?_ | refine G.blockE' rfl ?_ | refine G.blockR ?_ | refine G.thenE ?_ | refine G.thenR ?_ | refine G.only ?_ | refine G.treeEnd rfl ?_ | refine G.tree rfl (by first | exact hF | exact hF.weak (List.sublist_append_right _ _) (by repeat (first | exact allR | apply allT)) | exact hF.weak (by repeat (first | exact List.Sublist.refl _ | apply List.Sublist.cons)) (by repeat (first | exact allR | apply allT)) | exact hF.weak (by repeat (first | exact List.Sublist.refl _ | apply List.Sublist.cons)) (by repeat (first | exact allN | refine allH (by repeat (first | exact memH | apply memT)) ?_))) ?_) | refine TL.nil ?_ | (refine TL.nilFr hF ?_; clear hF; intro wq hF))
        all_goals
          obtain ⟨e1, e2⟩ := hstep (R ++ [(key, (some ⟨b, 0, none⟩, gl.length, cc), gl)]) (some (p.1.1, [p], ba, ca, za)) (by simp [rowsG, curG])
          rw [hup] at hF
          have hF2 := (hF.rotL).fin (R := R) (k := key) (by repeat (first | exact memH | apply memT)) hc2'
          refine G.again (R ++ [(key, (some ⟨b, 0, none⟩, gl.length, cc), gl)], some (p.1.1, [p], ba, ca, za)) (by dsimp only; rw [e1]; exact (by repeat (first | exact Sub.nil _ | refine Sub.cons rfl ?_ | refine Sub.cons' rfl (int_congr (by omega)) ?_))) ⟨⟨by dsimp only; rw [e1]; exact e2, fun r hr => ?_, ⟨Nat.one_pos, hca, hza, hzan, fun q hq => by simp only [List.mem_cons, List.not_mem_nil, or_false] at hq; rw [hq]⟩, fun h => (by cases h), fun k2 gl2 e r hr => ?_, fun r hr => ?_⟩, hF2.weak (.cons_cons _ (List.nil_sublist _)) (allH (by repeat (first | exact memH | apply memT)) (allH (by repeat (first | exact memH | apply memT)) (allH (by repeat (first | exact memH | apply memT)) (allH (by repeat (first | exact memH | apply memT)) allN))))⟩ (by dsimp only; rw [e1]; omega)
          · rcases List.mem_append.1 hr with hr | hr
            · exact hrk r hr
            · simp only [List.mem_cons, List.not_mem_nil, or_false] at hr
              subst hr
              exact ⟨hc1', rfl, hc5'⟩
          · simp only [Option.some.injEq, Prod.mk.injEq] at e
            rw [← e.1]
            rcases List.mem_append.1 hr with hr | hr
            · have := hlt' r hr; omega
            · simp only [List.mem_cons, List.not_mem_nil, or_false] at hr
              subst hr
              exact hkp
          · rcases List.mem_append.1 hr with hr | hr
            · exact hfr r hr
            · simp only [List.mem_cons, List.not_mem_nil, or_false] at hr
              subst hr
              rintro k3 ⟨_, o, e⟩
              cases e
              exact (hF.lo (.tail (.tail .head))).resolve_right id
  · have hkl2 : k = ls.length := Nat.le_antisymm hkl hkn
    rw [hkl2, List.take_length] at htk
    repeat' (first | (refine TL.isOp ?_; first | (refine TL.isG ?_; first | refine TL.grun rfl rfl rfl ?_ | refine TL.gskip rfl rfl rfl rfl ?_ | refine TL.gskipU rfl rfl rfl ?_) | (refine TL.isBin ?_; refine TL.cmpG rfl rfl rfl rfl (fun hc => ?_) (fun hc => ?_) <;> (try (first | (exfalso; omega) | exact absurd rfl hc))) | (apply TL.ev; (case hd => rfl); (case h => (first | exact ev_simple rfl | (apply Ev.isBin; first | exact ev_arN rfl rfl rfl (by omega) | exact ev_arI rfl rfl rfl (by omega) | exact ev_eqlB (r := true) rfl rfl rfl | exact ev_eqlB (r := false) rfl rfl rfl | exact ev_neqB (r := true) rfl rfl rfl | exact ev_neqB (r := false) rfl rfl rfl) | (apply Ev.isLoad; first | exact ev_loadFr hF rfl (by refine ⟨?_, ?_⟩; (focus (repeat (first | exact InV.head | apply InV.tail))); rfl) | exact ev_loadAFr hF rfl (by refine ⟨?_, ?_⟩; (focus (repeat (first | exact InV.head | apply InV.tail))); rfl)) | exact ev_len rfl | exact ev_fieldAddr rfl | exact ev_field rfl rfl | exact ev_fieldA rfl rfl | exact ev_buildX rfl rfl | exact ev_makeFunc rfl | exact ev_nilCheck rfl | exact ev_neg rfl (by omega) | exact ev_cap rfl))) | (refine TL.storeAFr hF rfl rfl rfl rfl (by refine ⟨?_, ?_⟩; (focus (repeat (first | apply SetV.head | apply SetV.tail))); rfl) rfl ?_; clear hF; intro ws hF) | (refine TL.storeFr hF rfl rfl rfl rfl (by refine ⟨?_, ?_⟩; (focus (repeat (first | apply SetV.head | apply SetV.tail))); rfl) rfl ?_; clear hF; intro ws hF) | (refine TL.boxAFr hF rfl rfl ?_; clear hF; intro wb bb hF) | (refine TL.boxFr hF rfl rfl ?_; clear hF; intro wb bb hF) | (refine TL.allocFr hF rfl rfl ?_; clear hF; intro wa ba hF)) | (refine T.is ?_; first | refine T.seq ?_ | refine T.region ?_ | refine T.block ?_ | refine T.cond_t rfl ?_ | refine T.cond_f rfl ?_ | refine T.exit ?_ | refine T.ret ?_ | refine T.skip ?_ | refine T.regionQ mixed (by kernel_rfl) ?_) | (refine G.is ?_; first | refine G.next ?_ | refine G.blockN ?_ | refine G.blockE ?_ | refine G.blockE' rfl ?_ | refine G.blockR ?_ | refine G.thenE ?_ | refine G.thenR ?_ | refine G.only ?_) | refine TL.nil ?_ | (refine TL.nilFr hF ?_; clear hF; intro wq hF))
    rcases cur with _ | ⟨key, gl, b, cc, zs⟩
    · obtain rfl := hcn rfl
      refine G.ret1 rfl rfl ⟨mb, [], ls, rfl, h6, hF.weak (List.Sublist.refl _) (allH (by repeat (first | exact memH | apply memT)) (allH (by repeat (first | exact memH | apply memT)) (allH (by repeat (first | exact memH | apply memT)) allN))), htk, fun r hr => (by cases hr), hnd, hlen, hzk, hfr⟩
    · obtain ⟨hc1', hc2', hc3', hc4', hc5'⟩ := hck
      have hF2 := hF.fin (R := R) (k := key) (by repeat (first | exact memH | apply memT)) hc2'
      refine G.ret1 rfl rfl ⟨mb, R ++ [(key, (some ⟨b, 0, none⟩, gl.length, cc), gl)], ls, rfl, h6, ?_, ?_, fun r hr => ?_, hnd, hlen, hzk, fun r hr => ?_⟩
      · have e : rowsM (R ++ [(key, (some ⟨b, 0, none⟩, gl.length, cc), gl)]) = rowsM R ++ curM (some (key, gl, b, cc, zs)) := by simp [rowsM, curM]
        rw [e]
        exact hF2.weak (List.Sublist.refl _) (allH (by repeat (first | exact memH | apply memT)) (allH (by repeat (first | exact memH | apply memT)) (allH (by repeat (first | exact memH | apply memT)) allN)))
      · rw [← htk]; simp [rowsG, curG]
      · rcases List.mem_append.1 hr with hr | hr
        · exact hrk r hr
        · simp only [List.mem_cons, List.not_mem_nil, or_false] at hr
          subst hr
          exact ⟨hc1', rfl, hc5'⟩
      · rcases List.mem_append.1 hr with hr | hr
        · exact hfr r hr
        · simp only [List.mem_cons, List.not_mem_nil, or_false] at hr
          subst hr
          rintro k3 ⟨_, o, e⟩
          cases e
          exact (hF.lo .head).resolve_right id
end Go.Proofs.Ytlpheckjogphmaa

set_option linter.unusedSectionVars false
namespace Go.Eng
open Go Go.Proofs Go.NatM Go.RowKit Go.Proofs.Ytlpheckjogphmaa
/-- sums by columns -/
abbrev SL := List (Int × IV)
def sz (s : SL) (j : Int) : Int := ival ((lkp s j).getD iv0)
theorem sz_ups (s : SL) (i : Int) (y : IV) (j : Int) : sz (ups s i y) j = if i = j then ival y else sz s j := by
  unfold sz
  rw [lkp_ups]
  by_cases h : i = j <;> simp [h]
theorem sz_some {s : SL} {j : Int} {y : IV} (h : lkp s j = some y) : sz s j = ival y := by unfold sz; rw [h]; rfl
/-- a row times a grid, at a column -/
def rs (gl l2 : GL) (j : Int) : Int := (gl.map fun p => ival p.2 * zv l2 (p.1.2, j)).sum
theorem rs_snoc (gl l2 : GL) (p : (Int × Int) × IV) (j : Int) : rs (gl ++ [p]) l2 j = rs gl l2 j + ival p.2 * zv l2 (p.1.2, j) := by simp [rs, List.sum_append]
/-- a row's number at a column -/
def cs (gl : GL) (j : Int) : Int := (gl.map fun q => if q.1.2 = j then ival q.2 else 0).sum
theorem cs_snoc (gl : GL) (q : (Int × Int) × IV) (j : Int) : cs (gl ++ [q]) j = cs gl j + if q.1.2 = j then ival q.2 else 0 := by simp [cs, List.sum_append]
theorem cs_zv {k : Int} : ∀ {gl : GL}, (gl.map (·.1)).Nodup → (∀ q ∈ gl, q.1.1 = k) → ∀ j, cs gl j = zv gl (k, j)
  | [], _, _, j => rfl
  | q :: gl, hn, hk, j => by
    simp only [List.map_cons, List.nodup_cons] at hn
    have ih := cs_zv hn.2 (fun q' hq => hk q' (List.mem_cons_of_mem _ hq)) j
    have h1 : cs (q :: gl) j = (if q.1.2 = j then ival q.2 else 0) + cs gl j := by simp [cs]
    have hq := hk q (List.mem_cons_self ..)
    obtain ⟨⟨q1, q2⟩, qv⟩ := q
    simp only at hq
    subst hq
    rw [h1]
    by_cases hj : q2 = j
    · subst hj
      rw [if_pos rfl, ih]
      have e1 : zv gl (q1, q2) = 0 := zv_none (lkp_none.2 hn.1)
      rw [e1]
      have e2 : lkp (((q1, q2), qv) :: gl) (q1, q2) = some qv := by simp [lkp]
      rw [zv_some e2]; simp
    · rw [if_neg hj, ih]
      unfold zv at0
      simp [lkp, hj]
/-- the product's numbers -/
def mulZ (l l2 : GL) (k : Int × Int) : Int := (l.map fun p => if p.1.1 = k.1 then ival p.2 * zv l2 (p.1.2, k.2) else 0).sum
theorem mulZ_rs (l l2 : GL) (x y : Int) : mulZ l l2 (x, y) = rs (inRow x l) l2 y := by
  unfold mulZ rs inRow
  induction l with
  | nil => rfl
  | cons p l ih =>
    simp only [List.map_cons, List.sum_cons, List.filter_cons]
    by_cases h : p.1.1 = x
    · simp only [h, if_true, decide_true, List.map_cons, List.sum_cons]
      simp only at ih
      rw [ih]
    · simp only [h, if_false, decide_false, Bool.false_eq_true, Int.zero_add]
      exact ih
theorem perm_of_zk {l ls : GL} (hn : (l.map (·.1)).Nodup) (hs : (ls.map (·.1)).Nodup) (h : ∀ k, zk ls k = zk l k) : (ls.map fun p => (p.1, ival p.2)).Perm (l.map fun p => (p.1, ival p.2)) := by
  have hnd : ∀ {a : GL}, (a.map (·.1)).Nodup → (a.map fun p => (p.1, ival p.2)).Nodup := fun {a} ha => by
    have : ((a.map fun p => (p.1, ival p.2)).map (·.1)).Nodup := by simpa [List.map_map, Function.comp_def] using ha
    exact (List.pairwise_map.1 this).imp fun hne e => hne (congrArg _ e)
  refine (List.perm_ext_iff_of_nodup (hnd hs) (hnd hn)).2 fun x => ?_
  have hm : ∀ {a : GL}, (a.map (·.1)).Nodup → (x ∈ (a.map fun p => (p.1, ival p.2)) ↔ zk a x.1 = some x.2) := fun {a} ha => by
    unfold zk
    constructor
    · intro hx
      obtain ⟨p, hp, rfl⟩ := List.mem_map.1 hx
      rw [lkp_of_mem (x := p.1) (v := p.2) ha hp]; rfl
    · intro hx
      cases hq : lkp a x.1 with
      | none => rw [hq] at hx; cases hx
      | some y =>
        rw [hq] at hx
        simp only [Option.map_some, Option.some.injEq] at hx
        exact List.mem_map.2 ⟨(x.1, y), lkp_mem hq, by rw [hx]⟩
  rw [hm hs, hm hn, h]
theorem zv_of_zk {l ls : GL} (h : ∀ k, zk ls k = zk l k) (k : Int × Int) : zv ls k = zv l k := by rw [zv_zk, zv_zk, h]
theorem perm_sum {a b : List Int} (h : a.Perm b) : a.sum = b.sum := by
  induction h with
  | nil => rfl
  | cons x _ ih => simp [ih]
  | swap x y l => simp only [List.sum_cons]; omega
  | trans _ _ h1 h2 => exact h1.trans h2
theorem mulZ_congr {l ls l2 ls2 : GL} (hn : (l.map (·.1)).Nodup) (hs : (ls.map (·.1)).Nodup) (h : ∀ k, zk ls k = zk l k) (h2 : ∀ k, zk ls2 k = zk l2 k) (k : Int × Int) : mulZ ls ls2 k = mulZ l l2 k := by
  have hp := (perm_of_zk hn hs h).map fun q : (Int × Int) × Int => if q.1.1 = k.1 then q.2 * zv l2 (q.1.2, k.2) else 0
  rw [List.map_map, List.map_map] at hp
  have := perm_sum hp
  unfold mulZ
  have e : (fun p : (Int × Int) × IV => if p.1.1 = k.1 then ival p.2 * zv ls2 (p.1.2, k.2) else 0) = (fun p => if p.1.1 = k.1 then ival p.2 * zv l2 (p.1.2, k.2) else 0) := by
    funext p; rw [zv_of_zk h2]
  rw [e]
  exact this
/-- the rows of a list of rows -/
theorem inRow_rows : ∀ {R : List RW}, (R.map (·.1)).Nodup → (∀ r ∈ R, ∀ q ∈ r.2.2, q.1.1 = r.1) → ∀ r ∈ R, inRow r.1 (rowsG R) = r.2.2
  | [], _, _, r, hr => by cases hr
  | r0 :: R, hn, hk, r, hr => by
    simp only [List.map_cons, List.nodup_cons] at hn
    have e : inRow r.1 (rowsG (r0 :: R)) = inRow r.1 r0.2.2 ++ inRow r.1 (rowsG R) := by simp [inRow, rowsG, List.filter_append]
    rw [e]
    rcases List.mem_cons.1 hr with rfl | hr
    · have h1 : inRow r.1 r.2.2 = r.2.2 := List.filter_eq_self.2 fun q hq => by simp [hk r (List.mem_cons_self ..) q hq]
      have h2 : inRow r.1 (rowsG R) = [] := List.filter_eq_nil_iff.2 fun q hq => by
        obtain ⟨r', hr', hq'⟩ := List.mem_flatMap.1 hq
        have := hk r' (List.mem_cons_of_mem _ hr') q hq'
        simp only [decide_eq_true_eq]
        intro e
        exact hn.1 (List.mem_map.2 ⟨r', hr', by rw [← this, e]⟩)
      rw [h1, h2, List.append_nil]
    · have h1 : inRow r.1 r0.2.2 = [] := List.filter_eq_nil_iff.2 fun q hq => by
        have := hk r0 (List.mem_cons_self ..) q hq
        simp only [decide_eq_true_eq]
        intro e
        exact hn.1 (List.mem_map.2 ⟨r, hr, by rw [← this, e]⟩)
      rw [h1, List.nil_append]
      exact inRow_rows hn.2 (fun r hr => hk r (List.mem_cons_of_mem _ hr)) r hr
theorem inRow_no {R : List RW} (hk : ∀ r ∈ R, ∀ q ∈ r.2.2, q.1.1 = r.1) {i : Int} (h : i ∉ R.map (·.1)) : inRow i (rowsG R) = [] := List.filter_eq_nil_iff.2 fun q hq => by
  obtain ⟨r', hr', hq'⟩ := List.mem_flatMap.1 hq
  have := hk r' hr' q hq'
  simp only [decide_eq_true_eq]
  intro e
  exact h (List.mem_map.2 ⟨r', hr', by rw [← this, e]⟩)
theorem rowsM_keys (R : List RW) : (rowsM R).map (·.1) = R.map (·.1) := by simp [rowsM, List.map_map, Function.comp_def]
/-- the row at a key, or an empty one -/
def rowAt (R : List RW) (k : Int) : RW := (R.find? fun r => decide (r.1 = k)).getD (k, (none, 0, 0), [])
theorem rowAt_spec {R : List RW} (hn : (R.map (·.1)).Nodup) (hk : ∀ r ∈ R, rowOk r) (k : Int) : ((lkp (rowsM R) k).elim (Value.slice none 0 0) slc3 = .slice (rowAt R k).2.1.1 (rowAt R k).2.2.length (rowAt R k).2.1.2.2) ∧ (rowAt R k ∈ R ∨ (rowAt R k) = (k, (none, 0, 0), [])) ∧ (rowAt R k).2.2 = inRow k (rowsG R) := by
  have hq : ∀ r ∈ R, ∀ q ∈ r.2.2, q.1.1 = r.1 := fun r hr => (hk r hr).2.2
  unfold rowAt
  cases h : R.find? fun r => decide (r.1 = k) with
  | none =>
    have hno : k ∉ R.map (·.1) := fun hm => by
      obtain ⟨r, hr, e⟩ := List.mem_map.1 hm
      have := (List.find?_eq_none.1 h) r hr
      simp [e] at this
    rw [lkp_none.2 (by rw [rowsM_keys]; exact hno)]
    exact ⟨rfl, .inr rfl, (inRow_no hq hno).symm⟩
  | some r =>
    have hr := List.mem_of_find?_eq_some h
    have hkey : r.1 = k := by simpa using List.find?_some h
    have hl : lkp (rowsM R) k = some r.2.1 := lkp_of_mem (by rw [rowsM_keys]; exact hn) (List.mem_map.2 ⟨r, hr, by rw [← hkey]⟩)
    rw [hl]
    refine ⟨?_, .inl hr, ?_⟩
    · simp only [Option.elim_some, Option.getD_some, slc3, (hk r hr).2.1]
    · simp only [Option.getD_some]
      rw [← hkey, inRow_rows hn hq r hr]
/-- more than 4096 places, or too long a number -/
def Refw (Z : Int × Int → Int) : Prop := (∃ k, bigZ (Z k)) ∨ ∃ l' : GL, NZ l' ∧ (l'.map (·.1)).Nodup ∧ (∀ p ∈ l', ival p.2 = Z p.1) ∧ 4096 < l'.length
end Go.Eng
