/- Layer 9: the law's roomy: a list of integers in memory of its own. Layer 9: the law's turned: words written over in their places. Layer 9: each with its block known whole; the walk over rows told so. From a law's row to its walk: arguments as the engine has them. What the bound of an Upto statement gives. Layers 1 and 2: contracts of nat.Shl, mulnat.MulLow. Layer 2: contracts of math/bits.Len, mulnat.Pow. Layer 2: contract of mulnat.Product. Arguments as the engine has them, more: slices of slices of words. Arguments as the engine has them, more: slices of structs, of whatever depth. Arguments as the engine has them: integers and matrices. Layer 9: MatTurns (printed by genturns.py). Layer 9: calls at unsound matrices (printed by genmati.py). Layer 9: zint's Sign, Cmp, Sub. Layer 9: Scale, VecMul, Sub, Add and Sub of shapes that do not go, Equal. Layer 9: VecMul, Equal. Layer 9: Pick. -/
import Derived.Test.YtlhmehikajidhaaPk10
import Derived.Test.YtlhmehikajidhaaPk11
import Derived.Test.YtlhmehikajidhaaPk4
import Derived.ProofKit
import Derived.OpenShut
import Derived.ChangeOld
import Derived.SizedLaws
import Derived.Test.YtlhmehikajidhaaRows
import Derived.Test.YtlhmehikajidhaaPk6
import Derived.Deep.Slices
import Derived.Test.YtlhmehikajidhaaPk3
import Derived.Test.YtlhmehikajidhaaPk8
set_option linter.unusedVariables false
set_option linter.unusedSimpArgs false
set_option linter.unusedSectionVars false
namespace Go.Eng
open Go Go.Proofs Go.NatM Go.RowKit Go.Proofs.Ytlhmehikajidhaa
/-- a slice as a value -/
abbrev SC := Option Addr × Nat × Nat
def slc (x : SC) : Value := .slice x.1 x.2.1 x.2.2
theorem slc_noV (l : List SC) (zs : List Value) (hz : zs.all noU64 = true) : (l.flatMap (fun x => [slc x]) ++ zs).all noU64 = true := by
  rw [List.all_append, hz, Bool.and_true, List.all_eq_true]
  intro v hv
  obtain ⟨x, _, hx⟩ := List.mem_flatMap.1 hv
  rw [List.mem_singleton.1 hx]; rfl
theorem Ow.bltX {α : Type} {f : α → Value} {H : Array Obj} {t : TypeId} {A : Option Addr} {n c lo : Nat} {l : List α} (h : Ow f H lo t A n c l) {k : Nat} (hk : A = some ⟨k, 0, none⟩) : k < H.size := by
  unfold Ow at h
  rcases h.2 with ⟨e, _⟩ | ⟨g, cur, e, _, hg, _⟩
  · rw [e] at hk; cases hk
  · rw [e] at hk; cases hk; exact (Array.getElem?_eq_some_iff.1 hg).1
theorem Ow.loX {α : Type} {f : α → Value} {H : Array Obj} {t : TypeId} {A : Option Addr} {n c lo : Nat} {l : List α} (h : Ow f H lo t A n c l) {k : Nat} (hk : A = some ⟨k, 0, none⟩) : lo ≤ k := by
  unfold Ow at h
  rcases h.2 with ⟨e, _⟩ | ⟨g, cur, e, hl, hg, _⟩
  · rw [e] at hk; cases hk
  · rw [e] at hk; cases hk; exact hl
theorem Ow.deX {F : Nat → Prop} {H H' : Array Obj} {t : TypeId} {A : Option Addr} {n c lo : Nat} {l : List Nat} (hd : DE F H H') (hf : ∀ k, A = some ⟨k, 0, none⟩ → F k) (h : Ow u64v H lo t A n c l) : Ow u64v H' lo t A n c l := by
  unfold Ow at h ⊢
  refine ⟨h.1, h.2.imp id ?_⟩
  rintro ⟨g, cur, e, hlo, hg, r⟩
  exact ⟨g, cur, e, hlo, (hd.block g _ _ _ hg (.inl (hf g e))).trans hg, r⟩
/-- a list of words in a block of its own, as a fact of frames -/
def dpOx (lo : Nat) (t : TypeId) (A : Option Addr) (n c : Nat) (l : List Nat) : DP := ⟨fun H => Ow u64v H lo t A n c l, fun k => A = some ⟨k, 0, none⟩, fun _ _ h hk => h.bltX hk, fun H H' hd h => Ow.deX hd (fun _ h => h) h⟩
/-- what roomy has made of the first i integers of l (of the n that are there) -/
def RmP (lo n i : Nat) (l F : List IV) (M : List SC) (H : Array Obj) : Prop := ∀ q, q < i → q < n → ∃ g, M.getD q default = (some ⟨g, 0, none⟩, (l.getD q default).m.n + 80, (l.getD q default).m.n + 80) ∧
  F.getD q default = ⟨(l.getD q default).neg, ⟨some ⟨g, 0, none⟩, (l.getD q default).m.n, (l.getD q default).m.n + 80, (l.getD q default).m.l⟩⟩ ∧ Ow u64v H lo 51 (some ⟨g, 0, none⟩) ((l.getD q default).m.n + 80) ((l.getD q default).m.n + 80) (roomL (l.getD q default).m.l)
def dpRm (lo n i : Nat) (l F : List IV) (M : List SC) : DP := ⟨RmP lo n i l F M, fun k => ∃ q, q < i ∧ q < n ∧ (M.getD q default).1 = some ⟨k, 0, none⟩, fun H k h hk => by
  obtain ⟨q, h1, h2, h3⟩ := hk
  obtain ⟨g, e1, _, hO⟩ := h q h1 h2
  rw [e1] at h3
  exact hO.bltX h3, fun H H' hd h q h1 h2 => by
  obtain ⟨g, e1, e2, hO⟩ := h q h1 h2
  exact ⟨g, e1, e2, Ow.deX hd (fun k hk => ⟨q, h1, h2, by rw [e1]; exact hk⟩) hO⟩⟩
section
variable {S : Nat → Prop} {w0 w w' : World} {L L' : List VB} {D : List DP} {lo n i : Nat} {t : TypeId} {A : Option Addr} {c : Nat} {l F : List IV} {M : List SC}
theorem Fr.permX (h : Fr w0 w L D S) (hp : L'.Perm L) : Fr w0 w L' D S :=
  ⟨h.exs, fun v hv => h.vars v (hp.mem_iff.1 hv), (hp.pairwise_iff (fun h => Ne.symm h)).2 h.dist, h.data, fun v hv => h.apart v (hp.mem_iff.1 hv)⟩
theorem Fr.addOx {ws : List Nat} (h : Fr w0 w L D S) (hE : Ext w w') (hO : Ow u64v w'.heap w.heap.size t A n c ws) (hlo : lo ≤ w.heap.size) : Fr w0 w' L (dpOx lo t A n c ws :: D) S := h.addNew hE _ (by unfold dpOx; exact hO.mono hlo) fun k hk => by unfold dpOx at hk; exact hO.loX hk
theorem Fr.ox {ws : List Nat} (h : Fr w0 w L D S) (hm : dpOx lo t A n c ws ∈ D) : Ow u64v w.heap lo t A n c ws := by have := h.data _ hm; unfold dpOx at this; exact this
theorem Fr.rm (h : Fr w0 w L D S) (hm : dpRm lo n i l F M ∈ D) : RmP lo n i l F M w.heap := by have := h.data _ hm; unfold dpRm at this; exact this
theorem Fr.rm0 (h : Fr w0 w L D S) : Fr w0 w L (dpRm lo n 0 l [] [] :: D) S := h.add _ (by unfold dpRm; exact fun q h1 => absurd h1 (Nat.not_lt_zero _)) fun v _ hk => by unfold dpRm at hk; obtain ⟨q, h1, _⟩ := hk; exact absurd h1 (Nat.not_lt_zero _)
theorem getD_cat {α : Type} [Inhabited α] {l : List α} {x : α} {q : Nat} (h : q < l.length) : (l ++ [x]).getD q default = l.getD q default := by simp only [List.getD]; rw [List.getElem?_append_left h]
theorem getD_last {α : Type} [Inhabited α] {l : List α} {x : α} {q : Nat} (h : l.length = q) : (l ++ [x]).getD q default = x := by subst h; simp [List.getD]
/-- one integer more -/
theorem Fr.rmSnoc {g : Nat} (h : Fr w0 w L D S) (hF : F.length = i) (hM : M.length = i) (hm : dpRm lo n i l F M ∈ D) (ho : i < n → dpOx lo 51 (some ⟨g, 0, none⟩) ((l.getD i default).m.n + 80) ((l.getD i default).m.n + 80) (roomL (l.getD i default).m.l) ∈ D) {x : IV} {s : SC}
    (hx : i < n → x = ⟨(l.getD i default).neg, ⟨some ⟨g, 0, none⟩, (l.getD i default).m.n, (l.getD i default).m.n + 80, (l.getD i default).m.l⟩⟩ ∧ s = (some ⟨g, 0, none⟩, (l.getD i default).m.n + 80, (l.getD i default).m.n + 80)) : Fr w0 w L (dpRm lo n (i + 1) l (F ++ [x]) (M ++ [s]) :: D) S := by
  refine h.add _ ?_ fun v hv hk => ?_
  · unfold dpRm
    intro q h1 h2
    by_cases e : q = i
    · subst e
      obtain ⟨rfl, rfl⟩ := hx h2
      exact ⟨g, getD_last hM, getD_last hF, h.ox (ho h2)⟩
    · obtain ⟨g', e1, e2, hO⟩ := h.rm hm q (by omega) h2
      exact ⟨g', by rw [getD_cat (by omega)]; exact e1, by rw [getD_cat (by omega)]; exact e2, hO⟩
  · unfold dpRm at hk
    obtain ⟨q, h1, h2, h3⟩ := hk
    by_cases e : q = i
    · subst e
      obtain ⟨_, rfl⟩ := hx h2
      rw [getD_last hM] at h3
      exact h.apart v hv _ (ho h2) (by unfold dpOx; exact h3)
    · rw [getD_cat (by omega)] at h3
      exact h.apart v hv _ hm (by unfold dpRm; exact ⟨q, by omega, h2, h3⟩)
end
end Go.Eng
namespace Go.Proofs.Ytlhmehikajidhaa
open Go Go.Eng Go.Proofs Go.NatM Go.RowKit
theorem lenCat {α : Type} {l : List α} {i : Nat} {x : α} (h : l.length = i) : (l ++ [x]).length = i + 1 := by simp [h]
theorem dropNV {zs : List Value} (h : zs.all noU64 = true) (n : Nat) : (zs.drop n).all noU64 = true := List.all_eq_true.2 fun v hv => List.all_eq_true.1 h v (List.mem_of_mem_drop hv)
/-- roomy's answer: the list with 80 more behind it, the lists of words -/
def RetRm (w : World) (n : Nat) (l : List IV) (e : Ending) (w' : World) : Prop := ∃ (bf g mc : Nat) (F : List IV) (M : List SC) (zm : List Value), e = .returned (.tuple #[.slice (some ⟨bf, 0, none⟩) (n + 80) (n + 80), .slice (some ⟨g, 0, none⟩) (n + 80) mc]) ∧ F.length = n + 80 ∧ M.length = n + 80 ∧ n + 80 ≤ mc ∧ zm.all noU64 = true ∧
  Fr w w' [⟨g, 35, M.flatMap (fun x => [slc x]) ++ zm⟩, ⟨bf, 37, F.flatMap ivc⟩] [dpRm w.heap.size n (n + 80) l F M]
set_option maxRecDepth 100000 in
set_option maxHeartbeats 16000000 in
theorem lroomy_ok (w : World) (A : Option Addr) (n c : Nat) (l : List IV) (hs : Sm 2 ivc w.heap w.heap.size A n c l) (hg : ∀ y ∈ l, GI w.heap y ∧ y.m.n ≤ 1048576) (hn : n ≤ 1048576) :
    Cl Try.prog 20 #[.slice A n c] w (RetRm w n l) := by
  have hlen := hs.len
  refine enter Try.func20 rfl rfl rfl ?_
  have hF := Fr.refl w
  repeat' (first | (refine TL.isOp ?_; first | (apply TL.ev; (case hd => rfl); (case h => (first | exact ev_simple rfl | (apply Ev.isBin; first | exact ev_arN rfl rfl rfl (by omega)) | exact ev_len rfl))) | (refine TL.makeFr hF ivc ⟨false, ⟨none, 0, 0, []⟩⟩ (d := 12) rfl rfl rfl (Nat.zero_le _) (by omega) rfl rfl rfl ?_; clear hF; intro w12 bf hF)) | (refine T.is ?_; first | refine T.seq ?_ | refine T.region ?_ | refine T.block ?_) | (refine G.is ?_; first | refine G.next ?_) | refine TL.nil ?_)
  refine T.loop (α := Nat × List IV × List SC × Option Addr × Nat) (fun x => [(0, .slice A n c), (4, .slice (some ⟨bf, 0, none⟩) x.1 (n + 80)), (5, .slice x.2.2.2.1 x.1 x.2.2.2.2), (6, .int .i64 (x.1 : Int))])
    (fun x w' => x.1 ≤ n + 80 ∧ x.2.1.length = x.1 ∧ x.2.2.1.length = x.1 ∧ ∃ zs, zs.length = (n + 80 - x.1) * 2 ∧ zs.all noU64 = true ∧
      ((x.1 = 0 ∧ x.2.2.2.1 = none ∧ x.2.2.2.2 = 0 ∧ Fr w w' [⟨bf, 37, x.2.1.flatMap ivc ++ zs⟩] [dpRm w.heap.size n x.1 l x.2.1 x.2.2.1]) ∨
       ∃ g zm, x.2.2.2.1 = some ⟨g, 0, none⟩ ∧ x.1 ≤ x.2.2.2.2 ∧ zm.length = x.2.2.2.2 - x.1 ∧ zm.all noU64 = true ∧ Fr w w' [⟨g, 35, x.2.2.1.flatMap (fun x => [slc x]) ++ zm⟩, ⟨bf, 37, x.2.1.flatMap ivc ++ zs⟩] [dpRm w.heap.size n x.1 l x.2.1 x.2.2.1]))
    (fun x => n + 80 - x.1) (0, [], [], none, 0) (by repeat (first | exact Sub.nil _ | refine Sub.cons rfl ?_ | refine Sub.cons' rfl (int_congr (by omega)) ?_)) ⟨Nat.zero_le _, rfl, rfl, (List.replicate (n + 80) (⟨false, ⟨none, 0, 0, []⟩⟩ : IV)).flatMap ivc, by rw [flatMap_len (k := 2) (fun _ _ => rfl)]; simp, ivc_noV _, .inl ⟨rfl, rfl, rfl, Fr.rm0 (by simpa using hF)⟩⟩ ?_
  clear hF
  rintro ⟨i, F, M, mA, mc⟩ w2 ⟨hi, hFl, hMl, zs, hzl, hzn, hst⟩
  dsimp only at hi hFl hMl hzl hst ⊢
  rcases Nat.lt_or_ge i (n + 80) with hin | hin
  · rcases Nat.lt_or_ge i n with hil | hil
    · have hy : l[i]? = some (l.getD i default) := by simp [List.getD, show i < l.length by omega]
      obtain ⟨y, ey⟩ : ∃ y, l.getD i default = y := ⟨_, rfl⟩
      have hgy := hg _ (List.mem_of_getElem? hy)
      rw [ey] at hy hgy
      obtain ⟨xs, ⟨xA, xn, xc, xl⟩⟩ := y
      rcases hst with ⟨h0, rfl, rfl, hF⟩ | ⟨g, zm, rfl, a1, a2, a3, hF⟩
      · subst h0
        obtain rfl : M = [] := List.eq_nil_of_length_eq_zero (by omega)
        repeat' (first | (refine TL.isOp ?_; first | (refine TL.isCall ?_; refine TL.call rfl rfl ?_; first | (refine (roomy_ok _ xA xn xc xl (hgy.1.ext hF.ext).s hgy.1.u (by have := hgy.2; dsimp only at this; omega)).mono ?_; rintro _ wr ⟨gr, rfl, hO, hE⟩; replace hF := Fr.addOx (lo := w.heap.size) hF hE hO hF.exs.size; clear hO hE; refine Back.mk ?_)) | (refine TL.isBin ?_; refine TL.cmpG rfl rfl rfl rfl (fun hc => ?_) (fun hc => ?_) <;> (try (first | (exfalso; omega) | exact absurd rfl hc))) | (apply TL.ev; (case hd => rfl); (case h => (first | exact ev_simple rfl | (apply Ev.isBin; first | exact ev_arN rfl rfl rfl (by omega) | exact ev_arU rfl rfl rfl (by first | exact True.intro | omega)) | (apply Ev.isLoad; first | exact ev_loadFr hF rfl (by refine ⟨?_, ?_⟩; (focus (repeat (first | exact InV.head | apply InV.tail))); rfl) | exact ev_loadMc [.bool xs, .slice xA xn xc] rfl (hs.ext hF.ext) hy rfl) | exact ev_len rfl | exact ev_fieldAddr rfl | exact ev_buildX rfl rfl | exact ev_convU rfl (by omega) | exact ev_indexM rfl rfl hil (hs.ext hF.ext).some))) | (refine TL.storeAFr hF rfl rfl rfl rfl (by refine ⟨?_, ?_⟩; (focus (repeat (first | apply SetV.head | apply SetV.tail))); rfl) rfl ?_; clear hF; intro ws hF) | (refine TL.buildXs hF (f := ivc) [⟨xs, ⟨some ⟨gr, 0, none⟩, xn, xn + 80, xl⟩⟩] [.tmp 51] rfl rfl rfl rfl (by intro u hu; rw [List.mem_singleton] at hu; subst hu; rfl) rfl rfl (by omega) (by omega) ?_; clear hF; intro w52 b52 hF hEn hbn hSn) | (refine TL.appendAtFr (f := ivc) (l := F) (zs := zs) hF rfl rfl rfl rfl hSn (fun _ => rfl) (fun _ => rfl) rfl rfl hFl (by omega) (by omega) (ivc_all F zs hzn) (by omega) (by repeat (first | apply SetV.head | apply SetV.tail)) (fun hle wn hFn => ?_) (fun hgr => absurd hgr (by omega)); clear hF hSn hEn hbn; have hF := hFn; clear hFn) | (refine TL.build1U rfl rfl ?_; intro wn bn ebn hBn hEn hzn; have hSn := hBn.slN (n := 1) (c := 1) rfl (Nat.le_refl _) hBn.lt; replace hF := Fr.addSl (hF.exts hEn) hSn; clear ebn hBn hEn hzn hSn) | (refine TL.allocFr hF (d := 7) rfl rfl ?_; clear hF; intro w7 b7 hF) | (refine TL.build1Fr hF (f := slc) (u := (some ⟨gr, 0, none⟩, xn + 80, xn + 80)) (fun _ => rfl) rfl rfl rfl ?_; clear hF; intro wl bl hbl hF hSl hEl) | (refine TL.appendNewFr hF (fun x => [slc x]) rfl rfl rfl rfl hSl (fun _ => rfl) rfl rfl (by omega) (fun h0 => absurd h0 (by omega)) ?_; clear hF hSl hEl; intro _ wn bN cN zN hcN hzN hzNn hF)) | (refine TF.is ?_; first | refine TF.nil ?_ | refine TF.e rfl ?_ | (refine TF.pick rfl ?_; first | (apply TFo.ev; (case hd => rfl); (case h => (intro wh hF; first | exact ev_simple rfl | (apply Ev.isLoad; first | exact ev_loadFr hF rfl (by refine ⟨?_, ?_⟩; (focus (repeat (first | exact InV.head | apply InV.tail))); rfl)) | (apply Ev.isSlice; first | exact ev_sl_h rfl rfl (by omega)) | exact ev_len rfl | exact ev_fieldAddr rfl | exact ev_buildX rfl rfl))))) | (refine T.is ?_; first | refine T.seq ?_ | refine T.region ?_ | refine T.block ?_ | refine T.cond_t rfl ?_ | refine T.skip ?_ | (refine T.regionFo bf hF (by repeat (first | exact Out.head | apply Out.tail)) 11 12 (.s 0 (.s 1 (.s 2 (.s 3 (.s 4 (.s 5 (.s 6 (.s 7 (.s 8 (.e 9 (.e 10 (.s 11 .nil)))))))))))) mixed (by kernel_rfl) ?_; clear hF; intro wr hF)) | (refine G.is ?_; first | refine G.next ?_ | refine G.blockN ?_ | refine G.only ?_ | refine G.tree rfl (hF.weak (by repeat (first | exact List.Sublist.refl _ | apply List.Sublist.cons_cons | apply List.Sublist.cons)) (by repeat (first | exact allR | apply allT))) ?_) | refine TL.nil ?_)
        all_goals first
          | exact G.again (0 + 1, _, _, some ⟨bN, 0, none⟩, cN) (by repeat (first | exact Sub.nil _ | refine Sub.cons rfl ?_ | refine Sub.cons' rfl (int_congr (by omega)) ?_)) ⟨hin, lenCat hFl, lenCat hMl, zs.drop (1 * 2), by dsimp only; rw [List.length_drop]; omega, dropNV hzn _, .inr ⟨bN, zN, rfl, (by dsimp only; omega), (by dsimp only; omega), hzNn, (Fr.rmSnoc (g := gr) (x := ⟨xs, ⟨some ⟨gr, 0, none⟩, xn, xn + 80, xl⟩⟩) (s := (some ⟨gr, 0, none⟩, xn + 80, xn + 80)) hF hFl hMl (by repeat (first | exact memH | apply memT)) (fun _ => by rw [ey]; exact (by repeat (first | exact memH | apply memT))) (fun _ => by rw [ey]; exact ⟨rfl, rfl⟩)).weak (by repeat (first | exact List.Sublist.refl _ | apply List.Sublist.cons_cons | apply List.Sublist.cons)) (allH memH allN)⟩⟩ (by dsimp only; omega)
      · skip
        repeat' (first | (refine TL.isOp ?_; first | (refine TL.isCall ?_; refine TL.call rfl rfl ?_; first | (refine (roomy_ok _ xA xn xc xl (hgy.1.ext hF.ext).s hgy.1.u (by have := hgy.2; dsimp only at this; omega)).mono ?_; rintro _ wr ⟨gr, rfl, hO, hE⟩; replace hF := Fr.addOx (lo := w.heap.size) hF hE hO hF.exs.size; clear hO hE; refine Back.mk ?_)) | (refine TL.isBin ?_; refine TL.cmpG rfl rfl rfl rfl (fun hc => ?_) (fun hc => ?_) <;> (try (first | (exfalso; omega) | exact absurd rfl hc))) | (apply TL.ev; (case hd => rfl); (case h => (first | exact ev_simple rfl | (apply Ev.isBin; first | exact ev_arN rfl rfl rfl (by omega) | exact ev_arU rfl rfl rfl (by first | exact True.intro | omega)) | (apply Ev.isLoad; first | exact ev_loadFr hF rfl (by refine ⟨?_, ?_⟩; (focus (repeat (first | exact InV.head | apply InV.tail))); rfl) | exact ev_loadMc [.bool xs, .slice xA xn xc] rfl (hs.ext hF.ext) hy rfl) | exact ev_len rfl | exact ev_fieldAddr rfl | exact ev_buildX rfl rfl | exact ev_convU rfl (by omega) | exact ev_indexM rfl rfl hil (hs.ext hF.ext).some))) | (refine TL.storeAFr hF rfl rfl rfl rfl (by refine ⟨?_, ?_⟩; (focus (repeat (first | apply SetV.head | apply SetV.tail))); rfl) rfl ?_; clear hF; intro ws hF) | (refine TL.buildXs hF (f := ivc) [⟨xs, ⟨some ⟨gr, 0, none⟩, xn, xn + 80, xl⟩⟩] [.tmp 51] rfl rfl rfl rfl (by intro u hu; rw [List.mem_singleton] at hu; subst hu; rfl) rfl rfl (by omega) (by omega) ?_; clear hF; intro w52 b52 hF hEn hbn hSn) | (refine TL.appendAtFr (f := ivc) (l := F) (zs := zs) hF rfl rfl rfl rfl hSn (fun _ => rfl) (fun _ => rfl) rfl rfl hFl (by omega) (by omega) (ivc_all F zs hzn) (by omega) (by repeat (first | apply SetV.head | apply SetV.tail)) (fun hle wn hFn => ?_) (fun hgr => absurd hgr (by omega)); clear hF hSn hEn hbn; have hF := hFn; clear hFn) | (refine TL.build1U rfl rfl ?_; intro wn bn ebn hBn hEn hzn; have hSn := hBn.slN (n := 1) (c := 1) rfl (Nat.le_refl _) hBn.lt; replace hF := Fr.addSl (hF.exts hEn) hSn; clear ebn hBn hEn hzn hSn) | (refine TL.allocFr hF (d := 7) rfl rfl ?_; clear hF; intro w7 b7 hF) | (refine TL.build1Fr hF (f := slc) (u := (some ⟨gr, 0, none⟩, xn + 80, xn + 80)) (fun _ => rfl) rfl rfl rfl ?_; clear hF; intro wl bl hbl hF hSl hEl) | (refine TL.appendAtFr (f := fun x => [slc x]) (l := M) (zs := zm) hF rfl rfl rfl rfl hSl (fun _ => rfl) (fun _ => rfl) rfl rfl hMl (by omega) a1 (slc_noV _ _ a3) (by omega) (by repeat (first | apply SetV.head | apply SetV.tail)) (fun hle wn hFn => ?_) (fun hgr wn bN cN zN2 hcN hzN hzNn hFn => ?_) <;> (clear hF hSl hEl; have hF := hFn; clear hFn))) | (refine TF.is ?_; first | refine TF.nil ?_ | refine TF.e rfl ?_ | (refine TF.pick rfl ?_; first | (apply TFo.ev; (case hd => rfl); (case h => (intro wh hF; first | exact ev_simple rfl | (apply Ev.isLoad; first | exact ev_loadFr hF rfl (by refine ⟨?_, ?_⟩; (focus (repeat (first | exact InV.head | apply InV.tail))); rfl)) | (apply Ev.isSlice; first | exact ev_sl_h rfl rfl (by omega)) | exact ev_len rfl | exact ev_fieldAddr rfl | exact ev_buildX rfl rfl))))) | (refine T.is ?_; first | refine T.seq ?_ | refine T.region ?_ | refine T.block ?_ | refine T.cond_t rfl ?_ | refine T.skip ?_ | (refine T.regionFo bf hF (by repeat (first | exact Out.head | apply Out.tail)) 11 12 (.s 0 (.s 1 (.s 2 (.s 3 (.s 4 (.s 5 (.s 6 (.s 7 (.s 8 (.e 9 (.e 10 (.s 11 .nil)))))))))))) mixed (by kernel_rfl) ?_; clear hF; intro wr hF)) | (refine G.is ?_; first | refine G.next ?_ | refine G.blockN ?_ | refine G.only ?_ | refine G.tree rfl (hF.weak (by repeat (first | exact List.Sublist.refl _ | apply List.Sublist.cons_cons | apply List.Sublist.cons)) (by repeat (first | exact allR | apply allT))) ?_) | refine TL.nil ?_)
        all_goals first
          | exact G.again (i + 1, _, _, some ⟨g, 0, none⟩, mc) (by repeat (first | exact Sub.nil _ | refine Sub.cons rfl ?_ | refine Sub.cons' rfl (int_congr (by omega)) ?_)) ⟨hin, lenCat hFl, lenCat hMl, zs.drop (1 * 2), by dsimp only; rw [List.length_drop]; omega, dropNV hzn _, .inr ⟨g, zm.drop (1 * 1), rfl, (by dsimp only; omega), (by dsimp only; rw [List.length_drop]; omega), dropNV a3 _, (Fr.rmSnoc (g := gr) (x := ⟨xs, ⟨some ⟨gr, 0, none⟩, xn, xn + 80, xl⟩⟩) (s := (some ⟨gr, 0, none⟩, xn + 80, xn + 80)) hF hFl hMl (by repeat (first | exact memH | apply memT)) (fun _ => by rw [ey]; exact (by repeat (first | exact memH | apply memT))) (fun _ => by rw [ey]; exact ⟨rfl, rfl⟩)).weak (by repeat (first | exact List.Sublist.refl _ | apply List.Sublist.cons_cons | apply List.Sublist.cons)) (allH memH allN)⟩⟩ (by dsimp only; omega)
          | exact G.again (i + 1, _, _, some ⟨bN, 0, none⟩, cN) (by repeat (first | exact Sub.nil _ | refine Sub.cons rfl ?_ | refine Sub.cons' rfl (int_congr (by omega)) ?_)) ⟨hin, lenCat hFl, lenCat hMl, zs.drop (1 * 2), by dsimp only; rw [List.length_drop]; omega, dropNV hzn _, .inr ⟨bN, zN2, rfl, (by dsimp only; omega), (by dsimp only; omega), hzNn, (Fr.rmSnoc (g := gr) (x := ⟨xs, ⟨some ⟨gr, 0, none⟩, xn, xn + 80, xl⟩⟩) (s := (some ⟨gr, 0, none⟩, xn + 80, xn + 80)) hF hFl hMl (by repeat (first | exact memH | apply memT)) (fun _ => by rw [ey]; exact (by repeat (first | exact memH | apply memT))) (fun _ => by rw [ey]; exact ⟨rfl, rfl⟩)).weak (by repeat (first | exact List.Sublist.refl _ | apply List.Sublist.cons_cons | apply List.Sublist.cons)) (allH memH allN)⟩⟩ (by dsimp only; omega)
    · rcases hst with ⟨h0, rfl, rfl, hF⟩ | ⟨g, zm, rfl, a1, a2, a3, hF⟩
      · subst h0
        obtain rfl : M = [] := List.eq_nil_of_length_eq_zero (by omega)
        repeat' (first | (refine TL.isOp ?_; first | (refine TL.isCall ?_; refine TL.call rfl rfl ?_; first | (refine (roomy_ok _ (some ⟨bn, 0, none⟩) 1 1 [(0 + 1099511627776) % 18446744073709551616] (Fr.sl hF (by repeat (first | exact memH | apply memT))) (U64.one (Nat.mod_lt _ (by omega))) (by omega)).mono ?_; rintro _ wr ⟨gr, rfl, hO, hE⟩; replace hF := Fr.addOx (lo := w.heap.size) hF hE hO hF.exs.size; clear hO hE; refine Back.mk ?_)) | (refine TL.isBin ?_; refine TL.cmpG rfl rfl rfl rfl (fun hc => ?_) (fun hc => ?_) <;> (try (first | (exfalso; omega) | exact absurd rfl hc))) | (apply TL.ev; (case hd => rfl); (case h => (first | exact ev_simple rfl | (apply Ev.isBin; first | exact ev_arN rfl rfl rfl (by omega) | exact ev_arU rfl rfl rfl (by first | exact True.intro | omega)) | (apply Ev.isLoad; first | exact ev_loadFr hF rfl (by refine ⟨?_, ?_⟩; (focus (repeat (first | exact InV.head | apply InV.tail))); rfl)) | exact ev_len rfl | exact ev_fieldAddr rfl | exact ev_buildX rfl rfl | exact ev_convU rfl (by omega)))) | (refine TL.storeAFr hF rfl rfl rfl rfl (by refine ⟨?_, ?_⟩; (focus (repeat (first | apply SetV.head | apply SetV.tail))); rfl) rfl ?_; clear hF; intro ws hF) | (refine TL.buildXs hF (f := ivc) [⟨_, ⟨some ⟨gr, 0, none⟩, 1, 1 + 80, [(0 + 1099511627776) % 18446744073709551616]⟩⟩] [.tmp 51] rfl rfl rfl rfl (by intro u hu; rw [List.mem_singleton] at hu; subst hu; rfl) rfl rfl (by omega) (by omega) ?_; clear hF; intro w52 b52 hF hEn hbn hSn) | (refine TL.appendAtFr (f := ivc) (l := F) (zs := zs) hF rfl rfl rfl rfl hSn (fun _ => rfl) (fun _ => rfl) rfl rfl hFl (by omega) (by omega) (ivc_all F zs hzn) (by omega) (by repeat (first | apply SetV.head | apply SetV.tail)) (fun hle wn hFn => ?_) (fun hgr => absurd hgr (by omega)); clear hF hSn hEn hbn; have hF := hFn; clear hFn) | (refine TL.build1U rfl rfl ?_; intro wn bn ebn hBn hEn hzn; have hSn := hBn.slN (n := 1) (c := 1) rfl (Nat.le_refl _) hBn.lt; replace hF := Fr.addSl (hF.exts hEn) hSn; clear ebn hBn hEn hzn hSn) | (refine TL.allocFr hF (d := 7) rfl rfl ?_; clear hF; intro w7 b7 hF) | (refine TL.build1Fr hF (f := slc) (u := (some ⟨gr, 0, none⟩, 1 + 80, 1 + 80)) (fun _ => rfl) rfl rfl rfl ?_; clear hF; intro wl bl hbl hF hSl hEl) | (refine TL.appendNewFr hF (fun x => [slc x]) rfl rfl rfl rfl hSl (fun _ => rfl) rfl rfl (by omega) (fun h0 => absurd h0 (by omega)) ?_; clear hF hSl hEl; intro _ wn bN cN zN hcN hzN hzNn hF)) | (refine TF.is ?_; first | refine TF.nil ?_ | refine TF.e rfl ?_ | (refine TF.pick rfl ?_; first | (apply TFo.ev; (case hd => rfl); (case h => (intro wh hF; first | exact ev_simple rfl | (apply Ev.isLoad; first | exact ev_loadFr hF rfl (by refine ⟨?_, ?_⟩; (focus (repeat (first | exact InV.head | apply InV.tail))); rfl)) | (apply Ev.isSlice; first | exact ev_sl_h rfl rfl (by omega)) | exact ev_len rfl | exact ev_fieldAddr rfl | exact ev_buildX rfl rfl))))) | (refine T.is ?_; first | refine T.seq ?_ | refine T.region ?_ | refine T.block ?_ | refine T.cond_t rfl ?_ | refine T.cond_f rfl ?_ | refine T.skip ?_ | (refine T.regionFo bf hF (by repeat (first | exact Out.head | apply Out.tail)) 11 12 (.s 0 (.s 1 (.s 2 (.s 3 (.s 4 (.s 5 (.s 6 (.s 7 (.s 8 (.e 9 (.e 10 (.s 11 .nil)))))))))))) mixed (by kernel_rfl) ?_; clear hF; intro wr hF)) | (refine G.is ?_; first | refine G.next ?_ | refine G.blockN ?_ | refine G.only ?_ | refine G.tree rfl (hF.weak (by repeat (first | exact List.Sublist.refl _ | apply List.Sublist.cons_cons | apply List.Sublist.cons)) (by repeat (first | exact allR | apply allT))) ?_) | refine TL.nil ?_)
        skip
        · exact G.again (0 + 1, _, _, some ⟨bN, 0, none⟩, cN) (by repeat (first | exact Sub.nil _ | refine Sub.cons rfl ?_ | refine Sub.cons' rfl (int_congr (by omega)) ?_)) ⟨hin, lenCat hFl, lenCat hMl, zs.drop (1 * 2), by dsimp only; rw [List.length_drop]; omega, dropNV hzn _, .inr ⟨bN, zN, rfl, (by dsimp only; omega), (by dsimp only; omega), hzNn, (Fr.rmSnoc (g := gr) (x := ⟨true, ⟨some ⟨gr, 0, none⟩, 1, 1 + 80, [(0 + 1099511627776) % 18446744073709551616]⟩⟩) (s := (some ⟨gr, 0, none⟩, 1 + 80, 1 + 80)) hF hFl hMl (by repeat (first | exact memH | apply memT)) (fun h => absurd h (by omega)) (fun h => absurd h (by omega))).weak (by repeat (first | exact List.Sublist.refl _ | apply List.Sublist.cons_cons | apply List.Sublist.cons)) (allH memH allN)⟩⟩ (by dsimp only; omega)
      · skip
        repeat' (first | (refine TL.isOp ?_; first | (refine TL.isCall ?_; refine TL.call rfl rfl ?_; first | (refine (roomy_ok _ (some ⟨bn, 0, none⟩) 1 1 [(i + 1099511627776) % 18446744073709551616] (Fr.sl hF (by repeat (first | exact memH | apply memT))) (U64.one (Nat.mod_lt _ (by omega))) (by omega)).mono ?_; rintro _ wr ⟨gr, rfl, hO, hE⟩; replace hF := Fr.addOx (lo := w.heap.size) hF hE hO hF.exs.size; clear hO hE; refine Back.mk ?_)) | (refine TL.isBin ?_; refine TL.cmpG rfl rfl rfl rfl (fun hc => ?_) (fun hc => ?_) <;> (try (first | (exfalso; omega) | exact absurd rfl hc))) | (apply TL.ev; (case hd => rfl); (case h => (first | exact ev_simple rfl | (apply Ev.isBin; first | exact ev_arN rfl rfl rfl (by omega) | exact ev_arU rfl rfl rfl (by first | exact True.intro | omega)) | (apply Ev.isLoad; first | exact ev_loadFr hF rfl (by refine ⟨?_, ?_⟩; (focus (repeat (first | exact InV.head | apply InV.tail))); rfl)) | exact ev_len rfl | exact ev_fieldAddr rfl | exact ev_buildX rfl rfl | exact ev_convU rfl (by omega)))) | (refine TL.storeAFr hF rfl rfl rfl rfl (by refine ⟨?_, ?_⟩; (focus (repeat (first | apply SetV.head | apply SetV.tail))); rfl) rfl ?_; clear hF; intro ws hF) | (refine TL.buildXs hF (f := ivc) [⟨_, ⟨some ⟨gr, 0, none⟩, 1, 1 + 80, [(i + 1099511627776) % 18446744073709551616]⟩⟩] [.tmp 51] rfl rfl rfl rfl (by intro u hu; rw [List.mem_singleton] at hu; subst hu; rfl) rfl rfl (by omega) (by omega) ?_; clear hF; intro w52 b52 hF hEn hbn hSn) | (refine TL.appendAtFr (f := ivc) (l := F) (zs := zs) hF rfl rfl rfl rfl hSn (fun _ => rfl) (fun _ => rfl) rfl rfl hFl (by omega) (by omega) (ivc_all F zs hzn) (by omega) (by repeat (first | apply SetV.head | apply SetV.tail)) (fun hle wn hFn => ?_) (fun hgr => absurd hgr (by omega)); clear hF hSn hEn hbn; have hF := hFn; clear hFn) | (refine TL.build1U rfl rfl ?_; intro wn bn ebn hBn hEn hzn; have hSn := hBn.slN (n := 1) (c := 1) rfl (Nat.le_refl _) hBn.lt; replace hF := Fr.addSl (hF.exts hEn) hSn; clear ebn hBn hEn hzn hSn) | (refine TL.allocFr hF (d := 7) rfl rfl ?_; clear hF; intro w7 b7 hF) | (refine TL.build1Fr hF (f := slc) (u := (some ⟨gr, 0, none⟩, 1 + 80, 1 + 80)) (fun _ => rfl) rfl rfl rfl ?_; clear hF; intro wl bl hbl hF hSl hEl) | (refine TL.appendAtFr (f := fun x => [slc x]) (l := M) (zs := zm) hF rfl rfl rfl rfl hSl (fun _ => rfl) (fun _ => rfl) rfl rfl hMl (by omega) a1 (slc_noV _ _ a3) (by omega) (by repeat (first | apply SetV.head | apply SetV.tail)) (fun hle wn hFn => ?_) (fun hgr wn bN cN zN2 hcN hzN hzNn hFn => ?_) <;> (clear hF hSl hEl; have hF := hFn; clear hFn))) | (refine TF.is ?_; first | refine TF.nil ?_ | refine TF.e rfl ?_ | (refine TF.pick rfl ?_; first | (apply TFo.ev; (case hd => rfl); (case h => (intro wh hF; first | exact ev_simple rfl | (apply Ev.isLoad; first | exact ev_loadFr hF rfl (by refine ⟨?_, ?_⟩; (focus (repeat (first | exact InV.head | apply InV.tail))); rfl)) | (apply Ev.isSlice; first | exact ev_sl_h rfl rfl (by omega)) | exact ev_len rfl | exact ev_fieldAddr rfl | exact ev_buildX rfl rfl))))) | (refine T.is ?_; first | refine T.seq ?_ | refine T.region ?_ | refine T.block ?_ | refine T.cond_t rfl ?_ | refine T.cond_f rfl ?_ | refine T.skip ?_ | (refine T.regionFo bf hF (by repeat (first | exact Out.head | apply Out.tail)) 11 12 (.s 0 (.s 1 (.s 2 (.s 3 (.s 4 (.s 5 (.s 6 (.s 7 (.s 8 (.e 9 (.e 10 (.s 11 .nil)))))))))))) mixed (by kernel_rfl) ?_; clear hF; intro wr hF)) | (refine G.is ?_; first | refine G.next ?_ | refine G.blockN ?_ | refine G.only ?_ | refine G.tree rfl (hF.weak (by repeat (first | exact List.Sublist.refl _ | apply List.Sublist.cons_cons | apply List.Sublist.cons)) (by repeat (first | exact allR | apply allT))) ?_) | refine TL.nil ?_)
        skip
        · exact G.again (i + 1, _, _, some ⟨g, 0, none⟩, mc) (by repeat (first | exact Sub.nil _ | refine Sub.cons rfl ?_ | refine Sub.cons' rfl (int_congr (by omega)) ?_)) ⟨hin, lenCat hFl, lenCat hMl, zs.drop (1 * 2), by dsimp only; rw [List.length_drop]; omega, dropNV hzn _, .inr ⟨g, zm.drop (1 * 1), rfl, (by dsimp only; omega), (by dsimp only; rw [List.length_drop]; omega), dropNV a3 _, (Fr.rmSnoc (g := gr) (x := ⟨true, ⟨some ⟨gr, 0, none⟩, 1, 1 + 80, [(i + 1099511627776) % 18446744073709551616]⟩⟩) (s := (some ⟨gr, 0, none⟩, 1 + 80, 1 + 80)) hF hFl hMl (by repeat (first | exact memH | apply memT)) (fun h => absurd h (by omega)) (fun h => absurd h (by omega))).weak (by repeat (first | exact List.Sublist.refl _ | apply List.Sublist.cons_cons | apply List.Sublist.cons)) (allH memH allN)⟩⟩ (by dsimp only; omega)
        · exact G.again (i + 1, _, _, some ⟨bN, 0, none⟩, cN) (by repeat (first | exact Sub.nil _ | refine Sub.cons rfl ?_ | refine Sub.cons' rfl (int_congr (by omega)) ?_)) ⟨hin, lenCat hFl, lenCat hMl, zs.drop (1 * 2), by dsimp only; rw [List.length_drop]; omega, dropNV hzn _, .inr ⟨bN, zN2, rfl, (by dsimp only; omega), (by dsimp only; omega), hzNn, (Fr.rmSnoc (g := gr) (x := ⟨true, ⟨some ⟨gr, 0, none⟩, 1, 1 + 80, [(i + 1099511627776) % 18446744073709551616]⟩⟩) (s := (some ⟨gr, 0, none⟩, 1 + 80, 1 + 80)) hF hFl hMl (by repeat (first | exact memH | apply memT)) (fun h => absurd h (by omega)) (fun h => absurd h (by omega))).weak (by repeat (first | exact List.Sublist.refl _ | apply List.Sublist.cons_cons | apply List.Sublist.cons)) (allH memH allN)⟩⟩ (by dsimp only; omega)
        · exact G.again (i + 1, _, _, some ⟨g, 0, none⟩, mc) (by repeat (first | exact Sub.nil _ | refine Sub.cons rfl ?_ | refine Sub.cons' rfl (int_congr (by omega)) ?_)) ⟨hin, lenCat hFl, lenCat hMl, zs.drop (1 * 2), by dsimp only; rw [List.length_drop]; omega, dropNV hzn _, .inr ⟨g, zm.drop (1 * 1), rfl, (by dsimp only; omega), (by dsimp only; rw [List.length_drop]; omega), dropNV a3 _, (Fr.rmSnoc (g := gr) (x := ⟨false, ⟨some ⟨gr, 0, none⟩, 1, 1 + 80, [(i + 1099511627776) % 18446744073709551616]⟩⟩) (s := (some ⟨gr, 0, none⟩, 1 + 80, 1 + 80)) hF hFl hMl (by repeat (first | exact memH | apply memT)) (fun h => absurd h (by omega)) (fun h => absurd h (by omega))).weak (by repeat (first | exact List.Sublist.refl _ | apply List.Sublist.cons_cons | apply List.Sublist.cons)) (allH memH allN)⟩⟩ (by dsimp only; omega)
        · exact G.again (i + 1, _, _, some ⟨bN, 0, none⟩, cN) (by repeat (first | exact Sub.nil _ | refine Sub.cons rfl ?_ | refine Sub.cons' rfl (int_congr (by omega)) ?_)) ⟨hin, lenCat hFl, lenCat hMl, zs.drop (1 * 2), by dsimp only; rw [List.length_drop]; omega, dropNV hzn _, .inr ⟨bN, zN2, rfl, (by dsimp only; omega), (by dsimp only; omega), hzNn, (Fr.rmSnoc (g := gr) (x := ⟨false, ⟨some ⟨gr, 0, none⟩, 1, 1 + 80, [(i + 1099511627776) % 18446744073709551616]⟩⟩) (s := (some ⟨gr, 0, none⟩, 1 + 80, 1 + 80)) hF hFl hMl (by repeat (first | exact memH | apply memT)) (fun h => absurd h (by omega)) (fun h => absurd h (by omega))).weak (by repeat (first | exact List.Sublist.refl _ | apply List.Sublist.cons_cons | apply List.Sublist.cons)) (allH memH allN)⟩⟩ (by dsimp only; omega)
  · obtain rfl : i = n + 80 := by omega
    rcases hst with ⟨h0, _⟩ | ⟨g, zm, rfl, a1, a2, a3, hF⟩
    · omega
    · obtain rfl : zs = [] := List.eq_nil_of_length_eq_zero (by omega)
      rw [List.append_nil] at hF
      repeat' (first | (refine TL.isOp ?_; first | (refine TL.isBin ?_; refine TL.cmpG rfl rfl rfl rfl (fun hc => ?_) (fun hc => ?_) <;> (try (first | (exfalso; omega) | exact absurd rfl hc))) | (apply TL.ev; (case hd => rfl); (case h => (first | exact ev_simple rfl | (apply Ev.isBin; first | exact ev_arN rfl rfl rfl (by omega)) | exact ev_len rfl)))) | (refine T.is ?_; first | refine T.seq ?_ | refine T.region ?_ | refine T.cond_f rfl ?_ | refine T.exit ?_ | refine T.ret ?_) | (refine G.is ?_; first | refine G.next ?_ | refine G.blockE ?_ | refine G.thenE ?_) | refine TL.nil ?_)
      exact G.ret2 rfl rfl rfl ⟨bf, g, mc, F, M, zm, rfl, hFl, hMl, a1, a3, hF⟩
end Go.Proofs.Ytlhmehikajidhaa

set_option linter.unusedSectionVars false
namespace Go.Eng
open Go Go.Proofs Go.NatM Go.RowKit Go.Proofs.Ytlhmehikajidhaa
/-- each of these blocks holds words -/
def WdP (n : Nat) (g N : Nat → Nat) (H : Array Obj) : Prop := ∀ q, q < n → ∃ ws, U64 ws ∧ Ow u64v H 0 51 (some ⟨g q, 0, none⟩) (N q) (N q) ws
theorem Ow.exsX {T : Nat → Prop} {w w' : World} {lo n c : Nat} {t : TypeId} {A : Option Addr} {l : List Nat} (hX : Exs T w w') (hT : ∀ k, A = some ⟨k, 0, none⟩ → ¬ T k) (h : Ow u64v w.heap lo t A n c l) : Ow u64v w'.heap lo t A n c l := by
  unfold Ow at h ⊢
  refine ⟨h.1, h.2.imp id ?_⟩
  rintro ⟨g, cur, e, hlo, hg, r⟩
  exact ⟨g, cur, e, hlo, (hX.block g (Array.getElem?_eq_some_iff.1 hg).1 (hT g e)).trans hg, r⟩
theorem Ow.sizes {lo lo' n n' k : Nat} {t t' : TypeId} {H : Array Obj} {l l' : List Nat} (h : Ow u64v H lo t (some ⟨k, 0, none⟩) n n l) (h' : Ow u64v H lo' t' (some ⟨k, 0, none⟩) n' n' l') : n = n' := by
  unfold Ow at h h'
  rcases h.2 with ⟨e, _⟩ | ⟨g, cur, e, _, hg, _, _, hs, _⟩
  · cases e
  · rcases h'.2 with ⟨e', _⟩ | ⟨g', cur', e', _, hg', _, _, hs', _⟩
    · cases e'
    · cases e; cases e'
      rw [hg] at hg'; cases hg'; omega
theorem U64.put {l : List Nat} {j u : Nat} (h : U64 l) (hu : u < 18446744073709551616) : U64 (l.set j u) := fun x hx => by
  rcases List.mem_or_eq_of_mem_set hx with h1 | h1
  · exact h x h1
  · subst h1; exact hu
end Go.Eng
namespace Go.Proofs.Ytlhmehikajidhaa
open Go Go.Eng Go.Proofs Go.NatM Go.RowKit
set_option maxRecDepth 100000 in
set_option maxHeartbeats 16000000 in
theorem lturned_ok (w : World) (bf m c n : Nat) (F : List IV) (g N : Nat → Nat) (hs : Sm 2 ivc w.heap w.heap.size (some ⟨bf, 0, none⟩) m c F) (hn : n ≤ m) (hm : m ≤ 4294967296)
    (hF0 : ∀ q, q < n → (F.getD q default).m.A = some ⟨g q, 0, none⟩ ∧ (F.getD q default).m.n ≤ N q ∧ (F.getD q default).m.n ≤ 1099511627776) (hbf : ∀ q, q < n → g q ≠ bf) (hW : WdP n g N w.heap) :
    Cl Try.prog 22 #[.slice (some ⟨bf, 0, none⟩) m c, .int .i64 (n : Int)] w (fun e w' => e = .returned (.tuple #[]) ∧ Exs (fun k => ∃ q, q < n ∧ g q = k) w w') := by
  have hlen := hs.len
  refine enter Try.func22 rfl rfl rfl ?_
  have hF := Fr.refl w
  repeat' (first | (refine TL.isOp ?_; first | (apply TL.ev; (case hd => rfl); (case h => (first | exact ev_simple rfl)))) | (refine T.is ?_; first | refine T.seq ?_ | refine T.region ?_ | refine T.block ?_) | (refine G.is ?_; first | refine G.next ?_) | refine TL.nil ?_)
  refine T.loop (α := Nat) (fun i => [(0, .slice (some ⟨bf, 0, none⟩) m c), (1, .int .i64 (n : Int)), (4, .int .i64 (i : Int))])
    (fun i W => i ≤ n ∧ WdP n g N W.heap ∧ Exs (fun k => ∃ q, q < n ∧ g q = k) w W) (fun i => n - i) 0 (by repeat (first | exact Sub.nil _ | refine Sub.cons rfl ?_ | refine Sub.cons' rfl (int_congr (by omega)) ?_)) ⟨Nat.zero_le _, hW, Exs.refl _ _⟩ ?_
  clear hF hW
  rintro i w1 ⟨hi, hW, hX⟩
  have hF := Fr.refl w1
  have hs1 : Sm 2 ivc w1.heap w1.heap.size (some ⟨bf, 0, none⟩) m c F := Sm.same hs hX.size fun k ⟨h0, o, e⟩ => by
    cases e
    exact hX.block _ (hs.fp_lt ⟨h0, 0, rfl⟩) fun ⟨q, h1, h2⟩ => hbf q h1 h2
  rcases Nat.lt_or_ge i n with hin | hin
  · obtain ⟨eA, eN, eK⟩ := hF0 i hin
    have hy : F[i]? = some (F.getD i default) := by simp [List.getD, show i < F.length by omega]
    obtain ⟨y, ey⟩ : ∃ y, F.getD i default = y := ⟨_, rfl⟩
    rw [ey] at hy eA eN eK
    obtain ⟨ys, ⟨yA, yn, yc, yl⟩⟩ := y
    dsimp only at eA eN eK
    subst eA
    have him : i < m := by omega
    repeat' (first | (refine TL.isOp ?_; first | (refine TL.isBin ?_; refine TL.cmpG rfl rfl rfl rfl (fun hc => ?_) (fun hc => ?_) <;> (try (first | (exfalso; omega) | exact absurd rfl hc))) | (apply TL.ev; (case hd => rfl); (case h => (first | exact ev_simple rfl | (apply Ev.isLoad; first | exact ev_loadMF rfl (hs1.ext hF.ext) hy rfl) | exact ev_fieldAddrE rfl rfl | exact ev_indexM rfl rfl him (.inr rfl))))) | (refine T.is ?_; first | refine T.seq ?_ | refine T.region ?_ | refine T.block ?_ | refine T.cond_t rfl ?_ | refine T.skip ?_) | (refine G.is ?_; first | refine G.next ?_) | refine TL.nil ?_)
    refine T.loop (α := Nat) (fun j => [(0, .slice (some ⟨bf, 0, none⟩) m c), (1, .int .i64 (n : Int)), (4, .int .i64 (i : Int)), (5, .slice (some ⟨g i, 0, none⟩) yn yc), (6, .int .i64 (j : Int))])
      (fun j W => j ≤ yn ∧ (∃ ws, U64 ws ∧ Ow u64v W.heap 0 51 (some ⟨g i, 0, none⟩) (N i) (N i) ws) ∧ Exs (fun k => g i = k) w1 W) (fun j => yn - j) 0 (by repeat (first | exact Sub.nil _ | refine Sub.cons rfl ?_ | refine Sub.cons' rfl (int_congr (by omega)) ?_)) ⟨Nat.zero_le _, (by obtain ⟨ws, h1, h2⟩ := hW i hin; exact ⟨ws, h1, Ow.ext hF.ext h2⟩), Exs.of hF.ext⟩ ?_
    clear hF
    rintro j w2 ⟨hj, ⟨ws, hU, hO⟩, hX2⟩
    have hF := Fr.refl w2
    rcases Nat.lt_or_ge j yn with hjn | hjn
    · have hjN : j < N i := by omega
      repeat' (first | (refine TL.isOp ?_; first | (refine TL.isBin ?_; refine TL.cmpG rfl rfl rfl rfl (fun hc => ?_) (fun hc => ?_) <;> (try (first | (exfalso; omega) | exact absurd rfl hc))) | (apply TL.ev; (case hd => rfl); (case h => (first | exact ev_simple rfl | (apply Ev.isBin; first | exact ev_arN rfl rfl rfl (by omega) | exact ev_arU rfl rfl rfl (by first | exact True.intro | omega)) | (apply Ev.isLoad; first | exact ev_loadU rfl (Ow.sl (Ow.ext hF.ext hO) (Nat.le_refl _)) hjN) | exact ev_len rfl | exact ev_convU rfl (by omega) | exact ev_indexN rfl rfl hjn (.inr rfl)))) | (refine TL.storeOw (k := j) (l := ws) rfl rfl (Ow.ext hF.ext hO) hjN ?_; intro w3 hO2 hX3; have hE1 := hF.ext; clear hF; have hF := Fr.refl w3)) | (refine T.is ?_; first | refine T.seq ?_ | refine T.region ?_ | refine T.block ?_ | refine T.cond_t rfl ?_ | refine T.skip ?_) | (refine G.is ?_; first | refine G.next ?_ | refine G.blockN ?_) | refine TL.nil ?_)
      exact G.again (j + 1) (by repeat (first | exact Sub.nil _ | refine Sub.cons rfl ?_ | refine Sub.cons' rfl (int_congr (by omega)) ?_)) ⟨hjn, ⟨_, U64.put hU (Nat.mod_lt _ (by omega)), hO2⟩, hX2.trans (hX3.mono fun k _ e => by cases e; rfl)⟩ (by omega)
    · obtain rfl : j = yn := by omega
      repeat' (first | (refine TL.isOp ?_; first | (refine TL.isBin ?_; refine TL.cmpG rfl rfl rfl rfl (fun hc => ?_) (fun hc => ?_) <;> (try (first | (exfalso; omega) | exact absurd rfl hc))) | (apply TL.ev; (case hd => rfl); (case h => (first | exact ev_simple rfl | (apply Ev.isBin; first | exact ev_arN rfl rfl rfl (by omega)) | exact ev_len rfl)))) | (refine T.is ?_; first | refine T.seq ?_ | refine T.region ?_ | refine T.cond_f rfl ?_ | refine T.exit ?_) | (refine G.is ?_; first | refine G.next ?_ | refine G.blockN ?_ | refine G.blockE ?_ | refine G.thenE ?_) | refine TL.nil ?_)
      refine G.again (i + 1) (by repeat (first | exact Sub.nil _ | refine Sub.cons rfl ?_ | refine Sub.cons' rfl (int_congr (by omega)) ?_)) ⟨hin, fun q hq => ?_, (hX.trans (hX2.mono fun k _ e => ⟨i, hin, e⟩)).trans (Exs.of hF.ext)⟩ (by omega)
      obtain ⟨wq, h1, h2⟩ := hW q hq
      obtain ⟨wi, h3, h4⟩ := hW i hin
      by_cases e : g q = g i
      · rw [e] at h2 ⊢
        have e2 := h2.sizes h4
        rw [e2]
        exact ⟨ws, hU, Ow.ext hF.ext hO⟩
      · exact ⟨wq, h1, Ow.ext hF.ext (Ow.exsX hX2 (fun k hk => by cases hk; exact fun h => e h.symm) h2)⟩
  · obtain rfl : i = n := by omega
    repeat' (first | (refine TL.isOp ?_; first | (refine TL.isBin ?_; refine TL.cmpG rfl rfl rfl rfl (fun hc => ?_) (fun hc => ?_) <;> (try (first | (exfalso; omega) | exact absurd rfl hc))) | (apply TL.ev; (case hd => rfl); (case h => (first | exact ev_simple rfl)))) | (refine T.is ?_; first | refine T.seq ?_ | refine T.region ?_ | refine T.cond_f rfl ?_ | refine T.exit ?_) | (refine G.is ?_; first | refine G.next ?_ | refine G.blockE ?_ | refine G.thenE ?_) | refine TL.nil ?_)
    exact G.end0 rfl ⟨rfl, hX.trans (Exs.of hF.ext)⟩
end Go.Proofs.Ytlhmehikajidhaa

namespace Go.Proofs.Ytlhmehikajidhaa
open Go Go.Eng Go.Proofs Go.NatM Go.RowKit
/-- a list of integers in a block of its own, known whole -/
def RetLW (w : World) (n : Nat) (Z : Nat → Int) (K : Nat) (e : Ending) (w' : World) : Prop := ∃ (b : Nat) (l : List IV), e = .returned (.slice (some ⟨b, 0, none⟩) n n) ∧ Vr w'.heap b 37 (l.flatMap ivc) ∧ l.length = n ∧ LsK n l Z K w'.heap ∧ Ext w w' ∧ w.heap.size ≤ b
set_option maxRecDepth 100000 in
set_option maxHeartbeats 8000000 in
theorem eachW (w : World) (A : Option Addr) (n k : Nat) (l : List IV) (hs : Sm 2 ivc w.heap w.heap.size A n k l) (hn : n ≤ 1048576) (g : FuncId) (cap : List Value) (hg : IsFn Try.prog g) (Z : Nat → Int) (K : Nat)
    (hG : ∀ i y (w1 : World), l[i]? = some y → Ext w w1 → Cl Try.prog g ([Value.agg (ivc y).toArray] ++ cap).toArray w1 (RetZ w1 (Z i) K)) :
    Cl Try.prog 47 #[.slice A n k, .func (.func g) #[] cap.toArray] w (RetLW w n Z K) := by
  have hlen := hs.len
  refine enter Try.func47 rfl rfl rfl ?_
  have hF := Fr.refl w
  repeat' (first | (refine TL.isOp ?_; first | (apply TL.ev; (case hd => rfl); (case h => (first | exact ev_simple rfl | exact ev_len rfl))) | (refine TL.makeFr hF ivc ⟨false, ⟨none, 0, 0, []⟩⟩ (d := 10) rfl rfl rfl (Nat.le_refl _) (by omega) rfl rfl rfl ?_; clear hF; intro w10 b10 hF)) | (refine T.is ?_; first | refine T.seq ?_ | refine T.region ?_ | refine T.block ?_) | (refine G.is ?_; first | refine G.next ?_) | refine TL.nil ?_)
  refine T.loop (α := Nat × List IV) (fun x => [(1, .func (.func g) #[] cap.toArray), (5, .slice (some ⟨b10, 0, none⟩) n n), (11, .slice A n k), (12, .int .i64 (n : Int)), (13, .int .i64 (x.1 : Int))])
    (fun x w' => x.1 ≤ n ∧ x.2.length = n ∧ Fr w w' [⟨b10, 37, x.2.flatMap ivc⟩] [dpLK x.1 x.2 Z K])
    (fun x => n - x.1) (0, List.replicate n ⟨false, ⟨none, 0, 0, []⟩⟩) (by repeat (first | exact Sub.nil _ | refine Sub.cons rfl ?_ | refine Sub.cons' rfl (int_congr (by omega)) ?_)) ⟨Nat.zero_le _, List.length_replicate .., Fr.addLK hF (fun q hq => absurd hq (Nat.not_lt_zero _))⟩ ?_
  clear hF
  rintro ⟨i, zl⟩ w2 ⟨hi, hzl, hF⟩
  dsimp only at hi hzl hF ⊢
  rcases Nat.lt_or_ge i n with hin | hin
  · have hy : l[i]? = some (l.getD i default) := by simp [List.getD, show i < l.length by omega]
    obtain ⟨⟨yneg, ⟨yA, yn, yc, yl⟩⟩, ey⟩ : ∃ y, l.getD i default = y := ⟨_, rfl⟩
    rw [ey] at hy
    repeat' (first | (refine TL.isOp ?_; first | (refine TL.isBin ?_; refine TL.cmpG rfl rfl rfl rfl (fun hc => ?_) (fun hc => ?_) <;> (try (first | (exfalso; omega) | exact absurd rfl hc))) | (apply TL.ev; (case hd => rfl); (case h => (first | exact ev_simple rfl | (apply Ev.isBin; first | exact ev_arN rfl rfl rfl (by omega)) | (apply Ev.isLoad; first | exact ev_loadAFr hF rfl (by refine ⟨?_, ?_⟩; (focus (repeat (first | exact InV.head | apply InV.tail))); rfl) | exact ev_loadM rfl (hs.ext hF.ext) hy) | exact ev_indexM rfl rfl hin (hs.ext hF.ext).some | exact ev_indexM rfl rfl hin (.inr rfl)))) | (refine TL.storeAFr hF rfl rfl rfl rfl (by refine ⟨?_, ?_⟩; (focus (repeat (first | apply SetV.head | apply SetV.tail))); rfl) rfl ?_; clear hF; intro ws hF) | (refine TL.callV (vs := [.agg (ivc ⟨yneg, ⟨yA, yn, yc, yl⟩⟩).toArray]) (cap := cap) hg rfl rfl rfl ?_; refine (hG i _ _ hy hF.ext).mono ?_; rintro _ wf ⟨x, rfl, hLx, hE, hKx⟩; replace hF := Fr.addLI (hF.exts hE) hLx; clear hE hLx; refine Back.mk ?_) | (refine TL.storeAtFr hF (f := ivc) x rfl rfl rfl rfl (fun _ => rfl) (by rw [hzl]; exact hin) (ivc_noV zl) (by repeat (first | apply SetV.head | apply SetV.tail)) ?_; clear hF; intro ws hF) | (refine TL.allocFr hF rfl rfl ?_; clear hF; intro wa ba hF)) | (refine T.is ?_; first | refine T.seq ?_ | refine T.region ?_ | refine T.block ?_ | refine T.cond_t rfl ?_ | refine T.skip ?_) | (refine G.is ?_; first | refine G.next ?_ | refine G.blockN ?_) | refine TL.nil ?_)
    have hk := (Fr.lk hF (i := i) (l := zl) (by repeat (first | exact memH | apply memT))).set (by omega) (Fr.li hF (x := x) (by repeat (first | exact memH | apply memT))) hKx
    exact G.again (i + 1, zl.set i x) (by repeat (first | exact Sub.nil _ | refine Sub.cons rfl ?_ | refine Sub.cons' rfl (int_congr (by omega)) ?_)) ⟨by dsimp only; omega, by rw [List.length_set]; exact hzl, Fr.addLK (hF.weak (L := [⟨b10, 37, (zl.set i x).flatMap ivc⟩]) (D := []) (List.Sublist.cons _ (List.Sublist.refl _)) allN) hk⟩ (by dsimp only; omega)
  · obtain rfl : i = n := by omega
    repeat' (first | (refine TL.isOp ?_; first | (refine TL.isBin ?_; refine TL.cmpG rfl rfl rfl rfl (fun hc => ?_) (fun hc => ?_) <;> (try (first | (exfalso; omega) | exact absurd rfl hc))) | (apply TL.ev; (case hd => rfl); (case h => (first | exact ev_simple rfl)))) | (refine T.is ?_; first | refine T.seq ?_ | refine T.region ?_ | refine T.cond_f rfl ?_ | refine T.exit ?_ | refine T.ret ?_) | (refine G.is ?_; first | refine G.next ?_ | refine G.blockE ?_ | refine G.thenE ?_) | refine TL.nil ?_)
    refine G.ret1 rfl rfl ⟨b10, zl, rfl, hF.var .head, hzl, Fr.lk hF (by repeat (first | exact memH | apply memT)), hF.ext, ?_⟩
    rcases hF.lo .head with h | h
    · exact h
    · exact h.elim
set_option maxRecDepth 100000 in
set_option maxHeartbeats 8000000 in
theorem lines_iterW (b r c K k : Nat) (A : Option Addr) (l : List IV) (F : Nat → Nat → Int) (hK : K ≤ 35184372088832) :
    Iter Try.prog 46 [.pointer (some ⟨b, 0, none⟩)] rowA r (fun W => Vr W.heap b 24 [.int .i64 (r : Int), .int .i64 (c : Int), .slice A (r * c) k] ∧ LM W.heap ⟨r, c, A, r * c, k, l⟩ r c F K)
      (fun i x Wb W => x.i = i ∧ x.n = c ∧ x.k = c ∧ ∃ b', x.A = some ⟨b', 0, none⟩ ∧ Wb.heap.size ≤ b' ∧ Vr W.heap b' 37 (x.l.flatMap ivc) ∧ x.l.length = c ∧ LsK c x.l (F i) K W.heap) := by
  intro l' J Jx W hJ hJx hIt h0 hY
  obtain ⟨hV, hL⟩ := hIt
  have hr := hL.sh.r64
  have hc64 := hL.sh.c64
  have hkk := hL.s.cap
  dsimp only at hkk
  have hm := mul64 hr hc64
  refine (enterM Try.func46 rfl rfl rfl (fun _ h => by obtain ⟨⟨v, hv⟩, _⟩ := h; cases hv) ?_).out
  have hF := Fr.refl W
  repeat' (first | (refine TL.isOp ?_; first | (apply TL.ev; (case hd => rfl); (case h => (first | exact ev_simple rfl | (apply Ev.isLoad; first | exact ev_loadV rfl (hV.ext hF.ext) rfl) | exact ev_fieldAddr rfl)))) | (refine G.is ?_; first | refine G.nextL ?_ | refine G.nextI ?_) | refine TL.nil ?_ | (refine TI.is ?_; first | refine TI.seq ?_ | refine TI.regionI ?_ | refine TI.block ?_) | (refine TLI.is ?_; first | refine TLI.nil ?_ | refine TLI.step rfl ?_))
  refine TI.loop (α := Nat) (fun i => [(0, .func (.yield l') #[] #[]), (1, .pointer (some ⟨b, 0, none⟩)), (5, .int .i64 (r : Int)), (6, .int .i64 (i : Int))])
    (fun i W' => i ≤ r ∧ J i W' ∧ Vr W'.heap b 24 [.int .i64 (r : Int), .int .i64 (c : Int), .slice A (r * c) k] ∧ LM W'.heap ⟨r, c, A, r * c, k, l⟩ r c F K) (fun i => r - i) 0 (by repeat (first | exact Sub.nil _ | refine Sub.cons rfl ?_ | refine Sub.cons' rfl (int_congr (by omega)) ?_)) ⟨Nat.zero_le _, h0, hV, hL⟩ ?_
  clear hF hV hL h0
  rintro i W1 ⟨hi, hj, hV, hL⟩
  have hF := Fr.refl W1
  rcases Nat.lt_or_ge i r with hin | hin
  · have hrow : i * c + c ≤ r * c := by have := Nat.mul_le_mul_right c (show i + 1 ≤ r from hin); rw [Nat.add_mul, Nat.one_mul] at this; exact this
    have hi1 : (i + 1) * c = i * c + c := by rw [Nat.add_mul, Nat.one_mul]
    have hsr : Sm 2 ivc W1.heap W1.heap.size (cutM 2 A k (i * c)) c (k - i * c) ((l.drop (i * c)).take c) := by
      have := hL.s.dropTake (i := i * c) (j := (i + 1) * c) (m := k) (m' := k - i * c) (by omega) (by dsimp only; omega) hkk (by omega)
      rwa [row_sub] at this
    have hgr : ∀ y ∈ (l.drop (i * c)).take c, GI W1.heap y ∧ y.m.n ≤ K := fun y hy => hL.gm.g y (List.mem_of_mem_drop (List.mem_of_mem_take hy))
    have hZ : ∀ q, q < c → ival (((l.drop (i * c)).take c).getD q default) = F i q := fun q hq => by
      have e1 : ((l.drop (i * c)).take c).getD q default = l.getD (i * c + q) default := by simp [List.getD, List.getElem?_take, hq, List.getElem?_drop]
      rw [e1]; exact (hL.g i q hin hq).1.val
    repeat' (first | (refine TL.isOp ?_; first | (refine TL.isCall ?_; refine TL.call rfl rfl ?_; first | (refine (eachW _ _ c _ _ (hsr.ext hF.ext).size (by omega) 39 [] inferInstance _ K (least_each _ _ K (fun y hy => ⟨(hgr y hy).1.ext hF.ext, (hgr y hy).2⟩) hK)).mono ?_; rintro _ wl ⟨bz, lz, rfl, hVz, hlz, hgz, hE, hbz⟩; have hbz2 := Nat.le_trans hF.exs.size hbz; have hgz2 : LsK c lz (F i) K wl.heap := (fun q hq => by have := hgz q hq; dsimp only at this; rw [hZ q hq] at this; exact this); replace hF := Fr.addLK (hF.newGe hbz hVz hE) hgz2; clear hE hgz hgz2 hVz; refine Back.mk ?_)) | (refine TL.isBin ?_; refine TL.cmpG rfl rfl rfl rfl (fun hc => ?_) (fun hc => ?_) <;> (try (first | (exfalso; omega) | exact absurd rfl hc))) | (apply TL.ev; (case hd => rfl); (case h => (first | exact ev_simple rfl | (apply Ev.isBin; first | exact ev_arN rfl rfl rfl (by omega)) | (apply Ev.isLoad; first | exact ev_loadV rfl (hV.ext hF.ext) rfl) | exact ev_fieldAddr rfl | exact ev_rowSl rfl rfl rfl (by omega))))) | (refine G.is ?_; first | refine G.nextL ?_ | refine G.nextI ?_ | refine G.blockN ?_ | refine G.blockR ?_ | refine G.thenR ?_) | refine TL.nil ?_ | (refine TI.is ?_; first | refine TI.seq ?_ | refine TI.regionI ?_ | refine TI.block ?_ | refine TI.cond_t rfl ?_ | refine TI.cond_f rfl ?_ | refine TI.ret ?_ | refine TI.skip ?_) | (refine TLI.is ?_; first | refine TLI.nil ?_ | (refine TLI.yield rfl rfl rfl ?_; refine Eng.YieldAt.weak (hY i ⟨i, some ⟨bz, 0, none⟩, c, c, lz⟩ W1 _ hin hj ⟨hV, hL⟩ hF.ext ⟨rfl, rfl, rfl, bz, rfl, hbz2, hF.var (b := bz) (by repeat (first | exact InV.head | apply InV.tail)), hlz, Fr.lk hF (by repeat (first | exact memH | apply memT))⟩) ?_; rintro e W2 (⟨rfl, hj2, hV2, hL2⟩ | ⟨rfl, hx2⟩) <;> refine ⟨_, rfl, ?_⟩ <;> clear hF <;> have hF := Fr.refl W2) | refine TLI.step rfl ?_))
    · exact G.again (i + 1) (by repeat (first | exact Sub.nil _ | refine Sub.cons rfl ?_ | refine Sub.cons' rfl (int_congr (by omega)) ?_)) ⟨by omega, hj2, hV2, hL2⟩ (by omega)
    · exact G.retM0 rfl ⟨⟨_, rfl⟩, .inr hx2⟩
  · obtain rfl : i = r := by omega
    repeat' (first | (refine TL.isOp ?_; first | (refine TL.isBin ?_; refine TL.cmpG rfl rfl rfl rfl (fun hc => ?_) (fun hc => ?_) <;> (try (first | (exfalso; omega) | exact absurd rfl hc)))) | (refine G.is ?_; first | refine G.nextL ?_ | refine G.nextI ?_ | refine G.blockE ?_ | refine G.thenE ?_) | refine TL.nil ?_ | (refine TI.is ?_; first | refine TI.seq ?_ | refine TI.regionI ?_ | refine TI.cond_f rfl ?_ | refine TI.exit ?_) | (refine TLI.is ?_; first | refine TLI.nil ?_ | refine TLI.step rfl ?_))
    exact G.endM0 rfl ⟨⟨_, rfl⟩, .inl ⟨hj, hV, hL⟩⟩
end Go.Proofs.Ytlhmehikajidhaa

namespace Go.Proofs.Ytlhmehikajidhaa
open Go Go.Eng Go.Proofs Go.NatM Go.ChangeShapes Go.WideShapes Go.ChangeAt Go.RowKit

theorem spot_none {w : World} {a : Addr} {v : Value} (h : w.cell? a = some v) : a = ⟨a.block, a.off, none⟩ := by
  cases a with
  | mk b o s =>
    cases s with
    | none => rfl
    | some s => unfold World.cell? at h; split at h <;> simp at h
theorem getD_map_toNat (zs : List Int) (hz : ∀ z ∈ zs, 0 ≤ z) (j : Nat) (hj : j < zs.length) : ((zs.map Int.toNat)[j]?).map (fun x : Nat => (x : Int)) = some (zs.getD j 0) := by
  simp [List.getD, hj, Int.toNat_of_nonneg (hz _ (List.getElem_mem hj))]
/-- an int that came in -/
theorem open_i64 {H : Type} {enc : TypeId × Value → H} {P : Program} {t : TypeId} {W : World} {base base' : Nat} {spare : Nat → Bool} {held : Bool} {v : Value} {d : DataW H} {ps : List MemPlace}
    (ht : P.underlying t = some (.int .i64)) (hv : Value.okWide P W .any base' t v) (h : DataW.Trod enc P W base spare held t v d ps) :
    ∃ x : Int, v = .int .i64 x ∧ -9223372036854775808 ≤ x ∧ x < 9223372036854775808 := by
  obtain ⟨x, e1, _, _, wx⟩ := open_int ht hv h
  refine ⟨x, e1, ?_⟩
  simp [Lit.wf, IntKind.min, IntKind.max, IntKind.signed, IntKind.bits] at wx
  omega
end Go.Proofs.Ytlhmehikajidhaa

namespace Go.Proofs.Ytlhmehikajidhaa
open Go Go.Eng Go.Proofs Go.NatM

theorem bulk_one {H : Type} (d : DataW H) : 1 ≤ Rows.uptoBulk d := by
  cases d with
  | lit l => cases l <;> simp [Rows.uptoBulk]
  | nil => simp [Rows.uptoBulk]
  | ptr d => simp [Rows.uptoBulk]
  | slice elems spare => simp [Rows.uptoBulk]
  | agg parts => simp [Rows.uptoBulk]
  | iface t d => simp [Rows.uptoBulk]
  | map entries => simp [Rows.uptoBulk]
  | held h => simp [Rows.uptoBulk]
theorem bulk_part {H : Type} {d : DataW H} {l : List (DataW H)} (h : d ∈ l) : Rows.uptoBulk d ≤ Rows.uptoBulkAll l := by
  induction l with
  | nil => cases h
  | cons x r ih =>
    simp only [Rows.uptoBulkAll]
    cases List.mem_cons.1 h with
    | inl e => subst e; omega
    | inr e => have := ih e; omega
theorem bulk_length {H : Type} (l : List (DataW H)) : l.length ≤ Rows.uptoBulkAll l := by
  induction l with
  | nil => simp [Rows.uptoBulkAll]
  | cons x r ih => have := bulk_one x; simp only [Rows.uptoBulkAll, List.length_cons]; omega
theorem small_all {H : Type} {ds gs : List (DataW H)} (h : Rows.uptoSmall H (ds ++ gs) = true) : Rows.uptoBulkAll (ds ++ gs) ≤ 1048576 := of_decide_eq_true h
theorem small_part {H : Type} {ds gs : List (DataW H)} (h : Rows.uptoSmall H (ds ++ gs) = true) {j : Nat} {d : DataW H} (hd : (ds ++ gs)[j]? = some d) : Rows.uptoBulk d ≤ 1048576 := by
  have h1 := small_all h
  have h2 := bulk_part (List.mem_of_getElem? hd)
  omega
end Go.Proofs.Ytlhmehikajidhaa

namespace Go.Proofs.Ytlhmehikajidhaa
open Go Go.Eng Go.Proofs Go.NatM

end Go.Proofs.Ytlhmehikajidhaa

namespace Go.Proofs.Ytlhmehikajidhaa
open Go Go.Eng Go.Proofs Go.NatM

end Go.Proofs.Ytlhmehikajidhaa

namespace Go.Proofs.Ytlhmehikajidhaa
open Go Go.Eng Go.Proofs Go.NatM

/-- the words of each -/
def LS (H : Array Obj) (B : Nat) (L : List (SA Nat)) : Prop := ∀ x ∈ L, Sl u64v H B x.A x.n x.c x.l ∧ U64 x.l
theorem LS.ext {w w' : World} {B : Nat} {L : List (SA Nat)} (hb : Ext w w') (h : LS w.heap B L) : LS w'.heap B L := fun x hx => ⟨(h x hx).1.ext hb, (h x hx).2⟩
theorem LS.take {H : Array Obj} {B : Nat} {L : List (SA Nat)} (h : LS H B L) (k : Nat) : LS H B (L.take k) := fun x hx => h x (List.mem_of_mem_take hx)
theorem LS.drop {H : Array Obj} {B : Nat} {L : List (SA Nat)} (h : LS H B L) (k : Nat) : LS H B (L.drop k) := fun x hx => h x (List.mem_of_mem_drop hx)
end Go.Proofs.Ytlhmehikajidhaa

namespace Go.Proofs.Ytlhmehikajidhaa
open Go Go.Eng Go.Proofs Go.NatM Go.ChangeShapes Go.WideShapes Go.ChangeAt Go.RowKit Go.Deep

/-- a slice of words, by its cells -/
theorem open_u64c {H : Type} {enc : TypeId × Value → H} {P : Program} {t e : TypeId} {W : World} {base : Nat} {spare : Nat → Bool} {held : Bool} {v : Value} {d : DataW H} {ps : List MemPlace} {fuel : Nat}
    (ht : P.underlying t = some (.slice e)) (he : P.underlying e = some (.int .u64)) (hc : P.cellsOf e = 1) (hf : DataW.trod enc P W base spare held fuel t [v] = some (d, ps)) :
    ∃ x : SA Nat, v = sav x ∧ Sl u64v W.heap W.heap.size x.A x.n x.c x.l ∧ U64 x.l ∧ x.n + 1 ≤ Rows.uptoBulk d := by
  rcases open_ints ht he hc hf with ⟨hcs, hx⟩ | ⟨a, len, cap, zs, hcs, hb, hl, hm, hz, hx, hcell, hwz⟩
  · cases hcs
    cases hx
    exact ⟨⟨none, 0, 0, []⟩, rfl, Sl.nil _ _ _ _ _, U64.nil, bulk_one _⟩
  · cases hcs
    cases hx
    have hlen : len ≤ zs.length := by split at hz <;> omega
    have hr : ∀ z ∈ zs, 0 ≤ z ∧ z < 18446744073709551616 := fun z hz' => by
      have := hwz z hz'
      simp [Lit.wf, IntKind.min, IntKind.max, IntKind.signed, IntKind.bits] at this
      omega
    refine ⟨⟨some a, len, cap, (zs.take len).map Int.toNat⟩, rfl, ⟨by simp; omega, hl, ?_⟩, ?_, ?_⟩
    · rcases Nat.eq_zero_or_pos len with h0 | h0
      · exact .inl h0
      · have hc0 := hcell 0 (by omega)
        have ha0 : a.add 0 = a := by simp [Addr.add]
        rw [ha0] at hc0
        have hs := spot_none hc0
        refine .inr ⟨a.block, a.off, by rw [← hs], World.block_lt_of_cell? W a hc0, fun j x hx' => ?_⟩
        have hj : j < len := by
          have := (List.getElem?_eq_some_iff.1 hx').1
          simp at this; omega
        have hcj := hcell j (by omega)
        rw [hs, add_mk, cell_of_hcell] at hcj
        rw [hcj]
        have e1 : (zs.take len).getD j 0 = zs.getD j 0 := by simp [List.getD, List.getElem?_take, hj]
        have e2 := getD_map_toNat (zs.take len) (fun z hz' => (hr z (List.mem_of_mem_take hz')).1) j (by simp; omega)
        rw [hx', e1] at e2
        simp at e2
        show some (Value.int .u64 _) = some (Value.int .u64 _)
        simp only [List.getD] at e2 ⊢
        rw [← e2]
    · intro x hx'
      obtain ⟨z, hz', rfl⟩ := List.mem_map.1 hx'
      have := hr z (List.mem_of_mem_take hz')
      omega
    · have h1 := bulk_length (lits (H := H) .u64 (zs.take len))
      have h2 : (lits (H := H) .u64 (zs.take len)).length = len := by simp [lits]; omega
      simp only [Rows.uptoBulk]
      show len + 1 ≤ _
      omega
end Go.Proofs.Ytlhmehikajidhaa

namespace Go.Proofs.Ytlhmehikajidhaa
open Go Go.Eng Go.Proofs Go.NatM Go.ChangeShapes Go.WideShapes Go.ChangeAt Go.RowKit Go.Deep

def wts {α : Type} (wt : α → Nat) : List α → Nat
  | [] => 0
  | x :: l => wt x + wts wt l
theorem wts_mem {α : Type} {wt : α → Nat} {x : α} {l : List α} (h : x ∈ l) : wt x ≤ wts wt l := by
  induction l with
  | nil => cases h
  | cons y l ih =>
    simp only [wts]
    rcases List.mem_cons.1 h with rfl | h'
    · omega
    · have := ih h'; omega
theorem wts_bulk {H α : Type} {wt : α → Nat} (X : Nat → α) (D : Nat → DataW H) : ∀ is : List Nat, (∀ i ∈ is, wt (X i) ≤ Rows.uptoBulk (D i)) → wts wt (is.map X) ≤ Rows.uptoBulkAll (is.map D)
  | [], _ => by simp [wts]
  | i :: is, h => by
    have h1 := h i (by simp)
    have h2 := wts_bulk X D is (fun j hj => h j (by simp [hj]))
    simp only [List.map_cons, wts, Rows.uptoBulkAll]
    omega
/-- an int, by its cell -/
theorem open_i64c {H : Type} {enc : TypeId × Value → H} {P : Program} {t : TypeId} {W : World} {base : Nat} {spare : Nat → Bool} {held : Bool} {cs : List Value} {x : DataW H × List MemPlace} {fuel : Nat}
    (ht : P.underlying t = some (.int .i64)) (hf : DataW.trod enc P W base spare held fuel t cs = some x) : ∃ z : Int, cs = [.int .i64 z] ∧ -9223372036854775808 ≤ z ∧ z < 9223372036854775808 := by
  obtain ⟨m, rfl, _, hw⟩ := DataW.trod_int ht hf
  refine ⟨m, rfl, ?_⟩
  simp [Lit.wf, IntKind.min, IntKind.max, IntKind.signed, IntKind.bits] at hw
  omega
/-- a slice of words, by its cells -/
theorem open_u64d {H : Type} {enc : TypeId × Value → H} {P : Program} {t e : TypeId} {W : World} {base : Nat} {spare : Nat → Bool} {held : Bool} {cs : List Value} {x : DataW H × List MemPlace} {fuel : Nat}
    (ht : P.underlying t = some (.slice e)) (he : P.underlying e = some (.int .u64)) (hc : P.cellsOf e = 1) (hf : DataW.trod enc P W base spare held fuel t cs = some x) :
    ∃ y : SA Nat, cs = [sav y] ∧ Sl u64v W.heap W.heap.size y.A y.n y.c y.l ∧ U64 y.l ∧ y.n + 1 ≤ Rows.uptoBulk x.1 := by
  rcases DataW.trod_slice ht hf with ⟨rfl, _⟩ | ⟨a, len, cap, _, _, _, _, rfl, _⟩
  · obtain ⟨y, e1, r⟩ := open_u64c (d := x.1) (ps := x.2) ht he hc hf <;> exact ⟨y, by rw [e1], r⟩
  · obtain ⟨y, e1, r⟩ := open_u64c (d := x.1) (ps := x.2) ht he hc hf <;> exact ⟨y, by rw [e1], r⟩
/-- a slice of values of k cells -/
theorem open_elems {H α : Type} [Inhabited α] {enc : TypeId × Value → H} {P : Program} {t e : TypeId} {W : World} {base : Nat} {spare : Nat → Bool} {held : Bool} {cs : List Value} {x : DataW H × List MemPlace} {fuel k : Nat}
    (f : α → List Value) (G : α → Prop) (wt : α → Nat) (hk : 0 < k) (hf : ∀ y, (f y).length = k) (ht : P.underlying t = some (.slice e)) (hc : P.cellsOf e = k)
    (elem : ∀ n cs' x, DataW.trod enc P W base spare held n e cs' = some x → ∃ y, cs' = f y ∧ G y ∧ wt y ≤ Rows.uptoBulk x.1)
    (h : DataW.trod enc P W base spare held fuel t cs = some x) :
    ∃ A n c L, cs = [.slice A n c] ∧ Sm k f W.heap W.heap.size A n c L ∧ (∀ y ∈ L, G y) ∧ wts wt L + 1 ≤ Rows.uptoBulk x.1 ∧ n + 1 ≤ Rows.uptoBulk x.1 := by
  rcases open_slice ht h with ⟨rfl, rfl⟩ | ⟨a, len, cap, m, n, D, Pl, rfl, hb, hl, hm, hmm, rfl, hx⟩
  · exact ⟨none, 0, 0, [], rfl, Sm.nil hk _ _ _ _ _, fun y hy => (by cases hy), by simp [wts, Rows.uptoBulk], by simp [Rows.uptoBulk]⟩
  · have hlm : len ≤ m := by split at hmm <;> omega
    rw [hc] at hx
    obtain ⟨X, hX⟩ := choose_lt (n := len) (p := fun i (y : α) => W.cells? base (a.add (i * k)) k = some (f y) ∧ G y ∧ wt y ≤ Rows.uptoBulk (D i)) (fun i hi => by
      obtain ⟨cs', h1, h2⟩ := hx i (by omega)
      obtain ⟨y, rfl, g1, g2⟩ := elem n cs' _ h2
      exact ⟨y, h1, g1, g2⟩)
    refine ⟨some a, len, cap, (List.range len).map X, rfl, ⟨by simp, hl, hk, fun y hy => hf y, ?_⟩, ?_, ?_, ?_⟩
    · rcases Nat.eq_zero_or_pos len with h0 | h0
      · exact .inl h0
      · have hc0 := (hX 0 (by omega)).1
        obtain ⟨_, hl0, hc0⟩ := World.cells?_some hc0
        have hc1 := hc0 0 hk
        obtain ⟨v0, hv0⟩ : ∃ v0, (f (X 0))[0]? = some v0 := ⟨_, List.getElem?_eq_getElem (by rw [hf]; exact hk)⟩
        rw [hv0] at hc1
        have e0 : (a.add (0 * k)).add 0 = a := by simp [Addr.add]
        rw [e0] at hc1
        have hs := spot_none hc1
        refine .inr ⟨a.block, a.off, by rw [← hs], World.block_lt_of_cell? W a hc1, fun j y hy q v hv => ?_⟩
        have hj : j < len := by
          have := (List.getElem?_eq_some_iff.1 hy).1
          simpa using this
        rw [List.getElem?_map, List.getElem?_range hj] at hy
        simp at hy
        subst hy
        obtain ⟨_, hlj, hcj⟩ := World.cells?_some (hX j hj).1
        have hq : q < k := by have := (List.getElem?_eq_some_iff.1 hv).1; rwa [hf] at this
        have := hcj q hq
        rw [hv, hs, add_mk, add_mk, cell_of_hcell, Nat.add_assoc] at this
        exact this
    · intro y hy
      obtain ⟨i, hi, rfl⟩ := List.mem_map.1 hy
      exact (hX i (List.mem_range.1 hi)).2.1
    · have := wts_bulk X D (List.range len) (fun i hi => (hX i (List.mem_range.1 hi)).2.2)
      simp only [Rows.uptoBulk]
      omega
    · have h1 := bulk_length ((List.range len).map D)
      simp only [List.length_map, List.length_range] at h1
      simp only [Rows.uptoBulk]
      omega
end Go.Proofs.Ytlhmehikajidhaa

namespace Go.Proofs.Ytlhmehikajidhaa
open Go Go.Eng Go.Proofs Go.NatM Go.ChangeShapes Go.WideShapes Go.ChangeAt Go.RowKit Go.Deep

theorem len2 {α : Type} {l : List α} (h : l.length = 2) : ∃ a b, l = [a, b] := by
  match l, h with
  | [a, b], _ => exact ⟨a, b, rfl⟩
theorem len3 {α : Type} {l : List α} (h : l.length = 3) : ∃ a b c, l = [a, b, c] := by
  match l, h with
  | [a, b, c], _ => exact ⟨a, b, c, rfl⟩
def ivw (x : IV) : Nat := x.m.n
theorem open_int {H : Type} {enc : TypeId × Value → H} {W : World} {base : Nat} {spare : Nat → Bool} {held : Bool} (m : Nat) (cs : List Value) (x : DataW H × List MemPlace)
    (h : DataW.trod enc Try.prog W base spare held m 37 cs = some x) : ∃ y : IV, cs = ivc y ∧ GI W.heap y ∧ ivw y ≤ Rows.uptoBulk x.1 := by
  obtain ⟨xs, q, _, rfl, hl, hxl, hall⟩ := DataW.trod_struct Try.underlying37 h
  have hl' : cs.length = 2 := hl.trans (by kernel_rfl)
  have hxl' : xs.length = 2 := hxl.trans rfl
  obtain ⟨v0, v1, rfl⟩ := len2 hl'
  obtain ⟨x0, x1, rfl⟩ := len2 hxl'
  have cb : Try.prog.cellsOf 4 = 1 := by kernel_rfl
  have cu : Try.prog.cellsOf 35 = 1 := by kernel_rfl
  have h0 : DataW.trod enc Try.prog W base spare held q 4 (([v0, v1].drop 0).take (Try.prog.cellsOf 4)) = some x0 := hall 0 _ rfl
  rw [cb] at h0
  have h1 : DataW.trod enc Try.prog W base spare held q 35 (([v0, v1].drop 1).take (Try.prog.cellsOf 35)) = some x1 := hall 1 _ rfl
  rw [cu] at h1
  obtain ⟨b, e0, _⟩ := DataW.trod_bool Try.underlying4 h0
  obtain rfl : v0 = .bool b := by simpa using e0
  obtain ⟨y1, e1, s1, u1, m1⟩ := open_u64d Try.underlying35 Try.underlying51 (by kernel_rfl) h1
  obtain rfl : v1 = sav y1 := by simpa using e1
  refine ⟨⟨b, y1⟩, rfl, ⟨s1, u1⟩, ?_⟩
  simp only [ivw, List.map_cons, List.map_nil, Rows.uptoBulk, Rows.uptoBulkAll]
  omega
/-- what is read of a matrix -/
structure RM0 (H : Array Obj) (x : MV) : Prop where
  s : Sm 2 ivc H H.size x.A x.n x.k x.l
  g : ∀ y ∈ x.l, GI H y
theorem small_mat {H : Array Obj} {y : MV} {b : Nat} (h : b ≤ 1048576) (r : RM0 H y) (hn : wts ivw y.l ≤ b) : RM H y 1048576 := ⟨r.s, fun x hx => ⟨r.g x hx, Nat.le_trans (wts_mem (wt := ivw) hx) (Nat.le_trans hn h)⟩⟩
end Go.Proofs.Ytlhmehikajidhaa

namespace Go.Proofs.Ytlhmehikajidhaa
open Go Go.Eng Go.Proofs Go.NatM Go.RowKit

theorem alike_li (w : World) (x y : IV) {z z' : Int} (gx : LI w.heap z x) (gy : LI w.heap z' y) (h : z = z') (hx : x.m.n ≤ 1099511627776) (hy : y.m.n ≤ 1099511627776) : Cl Try.prog 19 #[.agg (ivc x).toArray, .agg (ivc y).toArray] w (YesM w) :=
  alike_t w x y gx.g gy.g (by rw [gx.d, gy.d, h]) (by rw [gx.e, gy.e, h]) hx hy
end Go.Proofs.Ytlhmehikajidhaa

namespace Go.Proofs.Ytlhmehikajidhaa
open Go Go.Eng Go.Proofs Go.NatM Go.RowKit

/-- no integer, and an error's number -/
def RetZF (w : World) (err : Int) (e : Ending) (w' : World) : Prop := e = .returned (.tuple #[.agg #[.bool false, .slice none 0 0], .int .i64 err]) ∧ Ext w w'
def RetLF (w : World) (err : Int) (e : Ending) (w' : World) : Prop := e = .returned (.tuple #[.slice none 0 0, .int .i64 err]) ∧ Ext w w'
end Go.Proofs.Ytlhmehikajidhaa

namespace Go.Proofs.Ytlhmehikajidhaa
open Go Go.Eng Go.Proofs Go.NatM Go.RowKit

end Go.Proofs.Ytlhmehikajidhaa

namespace Go.Proofs.Ytlhmehikajidhaa
open Go Go.Eng Go.Proofs Go.NatM Go.RowKit

theorem RetZ.more {w : World} {z : Int} {K K' : Nat} (hK : K ≤ K') {e : Ending} {w' : World} (h : RetZ w z K e w') : RetZ w z K' e w' := by
  obtain ⟨x, h1, h2, h3, h4⟩ := h
  exact ⟨x, h1, h2, h3, Nat.le_trans h4 hK⟩
end Go.Proofs.Ytlhmehikajidhaa

namespace Go.Proofs.Ytlhmehikajidhaa
open Go Go.Eng Go.Proofs Go.NatM Go.RowKit

def RetLE (w : World) (n : Nat) (Z : Nat → Int) (K : Nat) (e : Ending) (w' : World) : Prop := ∃ A k l, e = .returned (.tuple #[.slice A n k, .int .i64 0]) ∧ LL w'.heap A n k l Z K ∧ Ext w w' ∧ LF w A n
end Go.Proofs.Ytlhmehikajidhaa

namespace Go.Proofs.Ytlhmehikajidhaa
open Go Go.Eng Go.Proofs Go.NatM Go.RowKit

def InL (l : List Int) (r : Nat) : Prop := ∀ z ∈ l, 0 ≤ z ∧ z < (r : Int)
theorem InL.at {l : List Int} {r i : Nat} (h : InL l r) (hi : i < l.length) : ∃ z : Nat, l.getD i 0 = (z : Int) ∧ z < r ∧ z = (l.getD i 0).toNat := by
  have e : l.getD i 0 = l[i] := by simp [List.getD, hi]
  obtain ⟨h1, h2⟩ := h l[i] (List.getElem_mem hi)
  exact ⟨l[i].toNat, by rw [e]; omega, by omega, by rw [e]⟩
theorem InL.of {l : List Int} {r : Nat} (h : ∀ q, q < l.length → 0 ≤ l.getD q 0 ∧ l.getD q 0 < (r : Int)) : InL l r := by
  intro z hz
  obtain ⟨q, hq⟩ := List.getElem?_of_mem hz
  have hlt := (List.getElem?_eq_some_iff.1 hq).1
  have := h q hlt
  simp only [List.getD, hq, Option.getD_some] at this
  exact this
theorem InL.not {l : List Int} {r q : Nat} (hq : q < l.length) (h : ¬ (0 ≤ l.getD q 0 ∧ l.getD q 0 < (r : Int))) : ¬ InL l r := fun hl => by
  obtain ⟨z, e, hz, _⟩ := hl.at hq
  exact h (by rw [e]; omega)
end Go.Proofs.Ytlhmehikajidhaa
