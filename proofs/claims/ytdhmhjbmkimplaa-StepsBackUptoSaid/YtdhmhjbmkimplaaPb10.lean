/- Layer 11: linesOf and matrix. Layer 11: a step done on lines, through its move; the matrix of lines; Check. Layer 11: Check; the matrix of lines. Layer 11: Rows, Matrix, Cols. Opening a slice of steps handed in. Layer 11: Rows refused; Matrix; Cols; steps are products. Layer 11: the reference's Check, Like, LikeRow, LikeMat; the law's num, awake, equal. Layer 11: the law's num, awake, equal. -/
import Derived.Test.YtdhmhjbmkimplaaPb9
import Derived.Test.YtdhmhjbmkimplaaPb8
import Derived.Test.YtdhmhjbmkimplaaPb7
set_option linter.unusedVariables false
set_option linter.unusedSimpArgs false
namespace Go.Proofs.Ytdhmhjbmkimplaa
open Go Go.Eng Go.Proofs Go.NatM Go.RowKit

theorem G.round {N : Fm} {σ : Store} {I : World → Prop} {Ix : Code → World → Prop} {W w : World} (hK : KeepsOthers W w) (h : I w) : G N .normal (RPost I Ix W) σ w := by
  unfold G; exact fun a ha => ⟨hK, h⟩
theorem It.cx {W W' : World} {B b : Nat} {t : TypeId} {cs : List Value} {x : MV} {r c K : Nat} {F : Nat → Nat → Int} (h : Vr W.heap b t cs ∧ LM W.heap x r c F K) (hc : Cx B W W') : Vr W'.heap b t cs ∧ LM W'.heap x r c F K :=
  ⟨by have h1 := h.1; unfold Vr at h1 ⊢; exact (hc.cells _ _ h1 rfl).trans h1, h.2.de hc.de⟩
section
variable {S : Nat → Prop} {w0 w w' : World} {L : List VB} {D : List DP}
/-- a matrix whose box is known whole -/
theorem Fr.addBoxLM (h : Fr w0 w L D S) (hE : Ext w w') {b : Nat} {t : TypeId} {cs : List Value} {x : MV} {r c K : Nat} {F : Nat → Nat → Int} (hb : w.heap.size ≤ b) (hV : Vr w'.heap b t cs) (hc : cs.all flagless = true) (g : LM w'.heap x r c F K) (hf : MF w x) : Fr w0 w' (⟨b, t, cs⟩ :: L) (dpLM x r c F K :: D) S := by
  refine (h.newGe hb hV hE).add _ (by unfold dpLM; exact g) fun v hv hk => ?_
  have hk' : fpA x.A x.n v.b := by unfold dpLM at hk; exact hk
  rcases List.mem_cons.1 hv with rfl | hv
  · exact g.s.fp_flag hk' hV hc
  · have h1 := (h.vars v hv).2.lt
    have h2 := mf_fp hf _ hk'
    omega
end
/-- lines that have been made -/
def RetLn (w : World) (n c : Nat) (F : Nat → Nat → Int) (K : Nat) (e : Ending) (w' : World) : Prop :=
  ∃ (g : Nat) (R : List RB), e = .returned (.slice (some ⟨g, 0, none⟩) n n) ∧ Rws n c R ∧ Fr w w' (lns g c R []) [dpLn n c R F K]
/-- lines under way -/
def LnS (w w' : World) (b3 g bm : Nat) (A : Option Addr) (k : Nat) (l : List IV) (r c : Nat) (F : Nat → Nat → Int) (K i : Nat) : Prop :=
  ∃ (R : List RB) (zs : List Value), Rws i c R ∧ i ≤ r ∧ zs.length = (r - i) * 1 ∧ zs.all noU64 = true ∧
    Fr w w' (⟨b3, 63, [.slice (some ⟨g, 0, none⟩) i r]⟩ :: ⟨g, 22, R.flatMap (fun x => [rowv c x]) ++ zs⟩ :: ⟨bm, 24, [.int .i64 (r : Int), .int .i64 (c : Int), .slice A (r * c) k]⟩ :: R.map rowVB) [dpLn i c R F K, dpLM ⟨r, c, A, r * c, k, l⟩ r c F K]
theorem LnS.cx {w w' W : World} {b3 g bm : Nat} {A : Option Addr} {k : Nat} {l : List IV} {r c : Nat} {F : Nat → Nat → Int} {K i B : Nat} (h : LnS w w' b3 g bm A k l r c F K i) (hc : Cx B w' W) (hB : w.heap.size ≤ B) : LnS w W b3 g bm A k l r c F K i := by
  obtain ⟨R, zs, h1, h2, h3, h4, hF⟩ := h
  exact ⟨R, zs, h1, h2, h3, h4, hF.cx hc hB⟩
theorem rows_noV (c : Nat) (R : List RB) (zs : List Value) (hz : zs.all noU64 = true) : (R.flatMap (fun x => [rowv c x]) ++ zs).all noU64 = true := by
  rw [List.all_append, hz, Bool.and_true, List.all_eq_true]
  intro v hv
  obtain ⟨y, _, hy⟩ := List.mem_flatMap.1 hv
  rw [List.mem_singleton.1 hy]; rfl
theorem LsR.snoc {H : Array Obj} {n c K : Nat} {R : List RB} {F : Nat → Nat → Int} {x : RB} (h : LsR n c R F K H) (hn : R.length = n) (hx : LsK c x.l (F n) K H) : LsR (n + 1) c (R ++ [x]) F K H := by
  intro i hi
  rcases Nat.lt_or_ge i n with h1 | h1
  · have e1 : (R ++ [x]).getD i default = R.getD i default := by simp only [List.getD]; rw [List.getElem?_append_left (by omega)]
    rw [e1]; exact h i h1
  · obtain rfl : i = n := by omega
    have e1 : (R ++ [x]).getD i default = x := by subst hn; simp [List.getD]
    rw [e1]; exact hx
theorem Rws.snoc {n c : Nat} {R : List RB} {x : RB} (h : Rws n c R) (hx : x.l.length = c) : Rws (n + 1) c (R ++ [x]) :=
  ⟨by simp [h.n], fun y hy => by
    rcases List.mem_append.1 hy with h1 | h1
    · exact h.c y h1
    · rw [List.mem_singleton.1 h1]; exact hx⟩
theorem drop_noV {zs : List Value} (h : zs.all noU64 = true) (n : Nat) : (zs.drop n).all noU64 = true := List.all_eq_true.2 fun v hv => List.all_eq_true.1 h v (List.mem_of_mem_drop hv)
theorem Fr.make1 {P : Program} {N : Fm} {Q : Exit → Act → World → Prop} {σ : Store} {S : Nat → Prop} {w0 w : World} {L : List VB} {D : List DP} {ops : Array Oper} {d : Nat} {t : TypeId} {pos : String} {af : Array Edge} {rest : List Oper} (hF : Fr w0 w L D S) {x y : Operand} {ty e : TypeId} [hT : USlice P ty e] {v : Value} {b1 : Nat} [hS : USize P e v 1 b1] (hzc : v.cells = #[v]) {k k' : IntKind} {z1 z2 : Int} {n c : Nat} [e1 : IsN z1 n] [e2 : IsN z2 c]
    (hx : Eng.look σ x = some (.int k z1)) (hy : Eng.look σ y = some (.int k' z2)) (hd : Nat.blt d N.n = true) (hn : n ≤ c) (hc : b1 * c ≤ 281474976710656 ∧ c ≤ 9223372036854775807)
    (K : ∀ w' b, Fr w0 w' (⟨b, e, List.replicate c v⟩ :: L) D S → TL P N .seq ops Q rest ((d, .slice (some ⟨b, 0, none⟩) n c) :: σ) w') :
    TL P N .seq ops Q (⟨some d, .makeSlice ty x y, t, pos, af, none⟩ :: rest) σ w :=
  TL.makeV hzc hx hy hd hn hc fun w' b hb hB hE _ => K w' b (hF.new hb (by unfold Bk at hB; unfold Vr; simpa using hB) hE)
set_option maxRecDepth 100000 in
set_option maxHeartbeats 8000000 in
theorem linesOf_ok (w : World) (x : MV) (r c K : Nat) (gx : GM w.heap x r c K) (hK : K ≤ 35184372088832) : Cl Try.prog 36 #[.agg (mvc x).toArray] w (RetLn w r c (ent x c) K) := by
  have hl := fun w1 (hE : Ext w w1) => lines_ok w1 x r c K (gx.ext hE) hK
  have hs0 := gx.sh
  generalize ent x c = F at *
  obtain ⟨xr, xc, A1, n1, k1, l1⟩ := x
  obtain ⟨hr1, hc1, hr, hcc, hn1⟩ := hs0
  dsimp only at hr1 hc1 hn1
  subst hr1 hc1 hn1
  refine enterM Try.func36 rfl rfl rfl (fun _ h => by obtain ⟨g, R, ha, _⟩ := h; cases ha) ?_
  have hF := Fr.refl w
  repeat' (first | (refine TL.isOp ?_; first | (refine TL.isCall ?_; refine TL.call rfl rfl ?_; first | (refine (hl _ hF.ext).mono ?_; rintro _ w1 ⟨bm, A, k, l, rfl, hVm, hLm, hE, hbm, hMf⟩; replace hF := Fr.addBoxLM hF hE hbm hVm rfl hLm hMf; clear hE hMf hVm; refine Back.mk ?_)) | (apply TL.ev; (case hd => rfl); (case h => (first | exact ev_simple rfl | (apply Ev.isLoad; first | exact ev_loadFr hF rfl (by refine ⟨?_, ?_⟩; (focus (repeat (first | exact InV.head | apply InV.tail))); rfl) | exact ev_loadAFr hF rfl (by refine ⟨?_, ?_⟩; (focus (repeat (first | exact InV.head | apply InV.tail))); rfl)) | exact ev_fieldAddr rfl))) | (refine TL.storeFr hF rfl rfl rfl rfl (by refine ⟨?_, ?_⟩; (focus (repeat (first | apply SetV.head | apply SetV.tail))); rfl) rfl ?_; clear hF; intro ws hF) | (refine TL.boxAFr hF (d := 1) (cs := [.int .i64 (r : Int), .int .i64 (c : Int), .slice A1 (r * c) k1]) rfl rfl ?_; clear hF; intro w1 b1 hF) | (refine TL.allocFr hF (d := 3) rfl rfl ?_; clear hF; intro w3 b3 hF) | (refine Fr.make1 hF (d := 8) rfl rfl rfl rfl (Nat.zero_le _) (by omega) ?_; clear hF; intro w8 b8 hF)) | (refine G.is ?_; first | refine G.nextI ?_) | refine TL.nil ?_ | (refine TI.is ?_; first | refine TI.seq ?_ | refine TI.region rfl ?_ | refine TI.block ?_))
  have hE1 := hF.ext
  have hS0 : LnS w w1 b3 b8 bm A k l r c F K 0 := ⟨[], List.replicate r (.slice none 0 0), ⟨rfl, fun _ h => (by cases h)⟩, Nat.zero_le _, by simp, by simp [List.all_eq_true, noU64], by
    refine Fr.perm ((Fr.addLn hF (n := 0) (c := c) (R := []) (F := F) (K := K) (fun i hi => absurd hi (Nat.not_lt_zero _))).weak (L := [⟨bm, 24, [.int .i64 (r : Int), .int .i64 (c : Int), .slice A (r * c) k]⟩, ⟨b3, 63, [.slice (some ⟨b8, 0, none⟩) 0 r]⟩, ⟨b8, 22, List.replicate r (.slice none 0 0)⟩]) (by repeat (first | exact List.Sublist.refl _ | apply List.Sublist.cons_cons | apply List.Sublist.cons)) allR) ?_
    simp only [List.map_nil, List.flatMap_nil, List.nil_append]
    exact (List.Perm.trans ((List.Perm.swap _ _ _).cons _) (List.Perm.swap _ _ _))⟩
  refine TI.rangeFunc (lines_iter2 bm r c K k A l F hK) rfl inferInstance (fun _ => rfl) rfl ⟨hF.var (by repeat (first | exact InV.head | apply InV.tail)), hLm⟩ (fun W W' h hc => It.cx h hc) (fun i W => LnS w W b3 b8 bm A k l r c F K i) (fun _ _ => False) (fun i W W' h hc => h.cx hc hE1.size) (fun _ _ _ h _ => h) hS0 ?_ ?_ (fun _ _ _ _ _ h => h.elim)
  · rintro L j ⟨i, xb, xn, xl⟩ Wb W hi hL hlp ⟨R, zs, hR, hir, hzs, hzn, hF⟩ hIt hEb ⟨e1, e2, hlen, hVx, hLx, hxb⟩
    dsimp only at e1 e2 hlen hVx hLx hxb
    subst e1 e2
    have hB := hE1.size
    clear hS0
    have hF1 := (Fr.addLK (hF.newGe hxb hVx hEb) hLx)
    clear hF
    repeat' (first | (refine TL.isOp ?_; first | (apply TL.ev; (case hd => rfl); (case h => (first | exact ev_simple rfl)))) | refine TL.nil ?_ | (refine TI.is ?_; first | refine TI.region rfl ?_))
    refine G.begun ⟨Nat.le_refl _, fun _ _ h _ => h⟩ fun w2 hc2 hl2 => ?_
    obtain ⟨S, hO, hF⟩ := (hF1.cx hc2 hB).open
    clear hF1
    repeat' (first | (refine TL.isOp ?_; first | (apply TL.ev; (case hd => rfl); (case h => (first | exact ev_simple rfl | (apply Ev.isLoad; first | exact ev_loadFr hF rfl (by refine ⟨?_, ?_⟩; (focus (repeat (first | exact InV.head | apply InV.tail))); rfl))))) | (refine TL.storeFr hF rfl rfl rfl rfl (by refine ⟨?_, ?_⟩; (focus (repeat (first | apply SetV.head | apply SetV.tail))); rfl) rfl ?_; clear hF; intro ws hF) | (refine TL.build1Fr hF (f := rowv xn) (u := ⟨xb, xl⟩) (fun _ => rfl) rfl rfl rfl ?_; clear hF; intro wl bl hbl hF hSl hEl) | (refine TL.appendAtFr (f := fun x => [rowv xn x]) (l := R) (zs := zs) hF rfl rfl rfl rfl hSl (fun _ => rfl) (fun _ => rfl) rfl rfl hR.n hzs hir (rows_noV _ _ _ hzn) (by omega) (by repeat (first | apply SetV.head | apply SetV.tail)) (fun hle wn hFn => ?_) (fun hgr => absurd hgr (by omega)); clear hF hSl hEl; have hF := hFn; clear hFn)) | (refine G.is ?_; first | refine G.blockN ?_) | refine TL.nil ?_ | (refine TI.is ?_; first | refine TI.region rfl ?_ | refine TI.block ?_))
    have hk := (Fr.ln hF (R := R) (F := F) (K := K) (n := i) (c := xn) (by repeat (first | exact memH | apply memT))).snoc (x := ⟨xb, xl⟩) hR.n (Fr.lk hF (i := xn) (l := xl) (Z := F i) (K := K) (by repeat (first | exact memH | apply memT)))
    have hF0 := Fr.shut hO (Fr.addLn hF hk)
    refine G.round (Fr.others hO hF) ⟨⟨R ++ [⟨xb, xl⟩], zs.drop (1 * 1), hR.snoc hlen, by omega, by rw [List.length_drop]; omega, drop_noV hzn _, ?_⟩, hF.var (by repeat (first | exact InV.head | apply InV.tail)), Fr.lm hF (by repeat (first | exact memH | apply memT))⟩
    refine Fr.perm (hF0.weak (.refl _) (allH (by repeat (first | exact memH | apply memT)) (allH (by repeat (first | exact memH | apply memT)) allN))) ?_
    rw [List.map_append, List.map_cons, List.map_nil]
    have hp : ∀ (a b c d : VB) (l : List VB), (a :: b :: c :: (l ++ [d])).Perm (d :: a :: b :: c :: l) := fun a b c d l => by
      have := (List.perm_append_singleton d (a :: b :: c :: l))
      simpa using this
    exact hp _ _ _ _ _
  · rintro D w2 hD hDw ⟨R, zs, hR, hir, hzs, hzn, hF⟩ hIt
    obtain rfl : zs = [] := List.eq_nil_of_length_eq_zero (by rw [hzs]; omega)
    obtain ⟨S, hO, hF⟩ := hF.open
    repeat' (first | (refine TL.isOp ?_; first | (apply TL.ev; (case hd => rfl); (case h => (first | exact ev_simple rfl | (apply Ev.isLoad; first | exact ev_loadFr hF rfl (by refine ⟨?_, ?_⟩; (focus (repeat (first | exact InV.head | apply InV.tail))); rfl)))))) | (refine G.is ?_; first | refine G.nextI ?_ | refine G.blockN ?_) | refine TL.nil ?_ | (refine TI.is ?_; first | refine TI.seq ?_ | refine TI.region rfl ?_ | refine TI.ret ?_))
    have hD2 := (Fr.others hO hF).same D _ hDw rfl
    have hF1 := (Fr.shut hO hF).cx (Cx.shut hD hD2) hE1.size
    refine G.retK1 rfl rfl hD2 ⟨b8, R, rfl, hR, ?_⟩
    rw [List.append_nil] at hF1
    unfold lns
    rw [List.append_nil]
    exact hF1.weak (.cons _ (.cons_cons _ (.cons _ (.refl _)))) (allH (by repeat (first | exact memH | apply memT)) allN)
theorem Fr.join {S : Nat → Prop} {w0 w w' : World} {L L' : List VB} {D D' : List DP} (h : Fr w0 w L D S) (h' : Fr w w' L' D') (hfp : ∀ d ∈ D', ∀ k, ¬ d.fp k) : Fr w0 w' (L' ++ L) (D' ++ D) S := by
  have hE := h'.ext
  have h1 := h.exts hE
  refine ⟨h1.exs, fun v hv => ?_, List.pairwise_append.2 ⟨h'.dist, h.dist, fun x hx y hy e => ?_⟩, fun d hd => ?_, fun v hv d hd => ?_⟩
  · rcases List.mem_append.1 hv with hv | hv
    · exact ⟨.inl (Nat.le_trans h.exs.size ((h'.vars v hv).1.resolve_right id)), (h'.vars v hv).2⟩
    · exact h1.vars v hv
  · have a1 := (h'.vars x hx).1.resolve_right id
    have a2 := (h.vars y hy).2.lt
    omega
  · rcases List.mem_append.1 hd with hd | hd
    · exact h'.data d hd
    · exact h1.data d hd
  · rcases List.mem_append.1 hd with hd | hd
    · exact hfp d hd _
    · rcases List.mem_append.1 hv with hv | hv
      · intro hk
        have a1 := (h'.vars v hv).1.resolve_right id
        have a2 := d.lt _ _ (h.data d hd) hk
        omega
      · exact h.apart v hv d hd
end Go.Proofs.Ytdhmhjbmkimplaa

namespace Go.Proofs.Ytdhmhjbmkimplaa
open Go Go.Eng Go.Proofs Go.NatM Go.RowKit

section
variable {S T : Nat → Prop} {w0 w w' : World} {L L1 L2 L1' : List VB} {D : List DP}
/-- the blocks of L1 have been written by a callee, and told in another order -/
theorem Fr.wroteP (h : Fr w0 w (L1 ++ L2) D S) (hE : Exs (fun k => ∃ v ∈ L1, v.b = k) w w') (hc : ∀ v ∈ L1, v.cs.all noU64 = true) (hb : (L1'.map (·.b)).Perm (L1.map (·.b))) (hV : ∀ v ∈ L1', Vr w'.heap v.b v.t v.cs) : Fr w0 w' (L1' ++ L2) D S := by
  have hd := h.dist
  rw [List.pairwise_append] at hd
  have hmb : ∀ v ∈ L1', ∃ u ∈ L1, u.b = v.b := fun v hv => by
    have : v.b ∈ L1'.map (·.b) := List.mem_map_of_mem hv
    rw [hb.mem_iff, List.mem_map] at this
    exact this
  refine ⟨?_, ?_, ?_, ?_, ?_⟩
  · refine h.exs.then hE fun i hi ⟨v, hv, e⟩ => ?_
    subst e
    rcases (h.vars v (List.mem_append_left _ hv)).1 with h1 | h1
    · omega
    · exact h1
  · intro v hv
    rcases List.mem_append.1 hv with hv | hv
    · obtain ⟨u, hu, e⟩ := hmb v hv
      exact ⟨by rw [← e]; exact (h.vars u (List.mem_append_left _ hu)).1, hV v hv⟩
    · have h1 := h.vars v (List.mem_append_right _ hv)
      refine ⟨h1.1, ?_⟩
      have h2 := h1.2
      unfold Vr at h2 ⊢
      exact (hE.block v.b h1.2.lt (fun ⟨u, hu, e⟩ => hd.2.2 u hu v hv e)).trans h2
  · rw [List.pairwise_append]
    refine ⟨?_, hd.2.1, fun x hx y hy => ?_⟩
    · have h1 : (L1.map (·.b)).Pairwise (· ≠ ·) := List.pairwise_map.2 hd.1
      exact List.pairwise_map.1 ((hb.pairwise_iff (fun h => Ne.symm h)).2 h1)
    · obtain ⟨u, hu, e⟩ := hmb x hx
      rw [← e]; exact hd.2.2 u hu y hy
  · intro d hdm
    refine d.st _ _ ⟨hE.size, fun k cs t x hk hor => hE.block k (Array.getElem?_eq_some_iff.1 hk).1 fun ⟨v, hv, e⟩ => ?_, fun k o hk _ hf => hE.block k (Array.getElem?_eq_some_iff.1 hk).1 fun ⟨v, hv, e⟩ => h.apart v (List.mem_append_left _ hv) d hdm (by rw [e]; exact hf)⟩ (h.data d hdm)
    subst e
    rcases hor with hf | hn
    · exact h.apart v (List.mem_append_left _ hv) d hdm hf
    · have h1 := (h.vars v (List.mem_append_left _ hv)).2
      unfold Vr at h1
      rw [h1] at hk
      cases hk
      simp only [List.toList_toArray] at hn
      rw [hc v hv] at hn
      cases hn
  · intro v hv d hdm
    rcases List.mem_append.1 hv with hv | hv
    · obtain ⟨u, hu, e⟩ := hmb v hv
      rw [← e]; exact h.apart u (List.mem_append_left _ hu) d hdm
    · exact h.apart v (List.mem_append_right _ hv) d hdm
theorem Fr.self (h : Fr w0 w L D S) : Fr w w L D (fun k => ∃ v ∈ L, v.b = k) := ⟨Exs.refl _ _, fun v hv => ⟨.inr ⟨v, hv, rfl⟩, (h.vars v hv).2⟩, h.dist, h.data, h.apart⟩
end
theorem lns_app (g c : Nat) (R : List RB) (post : List VB) : lns g c R [] ++ post = lns g c R post := by unfold lns; simp
theorem lns_noV (g c : Nat) (R : List RB) : ∀ v ∈ lns g c R [], v.cs.all noU64 = true := by
  intro v hv
  unfold lns at hv
  rw [List.append_nil] at hv
  rcases List.mem_cons.1 hv with rfl | hv
  · have := rows_noV c R [] rfl
    rwa [List.append_nil] at this
  · obtain ⟨x, _, rfl⟩ := List.mem_map.1 hv
    exact ivc_noV x.l
/-- what a step does to the rows -/
def stepF (s : SP) (F : Nat → Nat → Int) : Nat → Nat → Int :=
  if s.kind = 1 then fun p q => F (if p = s.j.toNat then s.i.toNat else if p = s.i.toNat then s.j.toNat else p) q
  else if s.kind = 2 then fun p q => if p = s.i.toNat then - F s.i.toNat q else F p q
  else fun p q => if p = s.i.toNat then ival s.k * F s.j.toNat q + F s.i.toNat q else F p q
theorem on_any {w0 w : World} {S : Nat → Prop} {g n c K : Nat} {R : List RB} {F : Nat → Nat → Int} {post : List VB} {D : List DP} {f : FuncId} {v : Value} {K' : Nat} {F' : Nat → Nat → Int} (hF : Fr w0 w (lns g c R post) D S) (hm : dpLn n c R F K ∈ D)
    (h : ∀ S', Fr w w (lns g c R []) [dpLn n c R F K] S' → Cl Try.prog f #[v, .slice (some ⟨g, 0, none⟩) n n] w (RetOn w g n c R F' K' S')) :
    Cl Try.prog f #[v, .slice (some ⟨g, 0, none⟩) n n] w (fun e w' => e = .returned (.tuple #[]) ∧ ∃ R', Rws n c R' ∧ Fr w0 w' (lns g c R' post) (dpLn n c R' F' K' :: D) S) := by
  have h1 : Fr w0 w (lns g c R []) [dpLn n c R F K] S := hF.weak (by unfold lns; exact List.Sublist.cons_cons _ (List.Sublist.append (List.Sublist.refl _) (List.nil_sublist _))) (allH hm allN)
  refine (h _ (Fr.self h1)).mono ?_
  rintro _ w' ⟨rfl, R', hR', hp, hF'⟩
  refine ⟨rfl, R', hR', ?_⟩
  have hF2 : Fr w0 w (lns g c R [] ++ post) D S := by rw [lns_app]; exact hF
  have hpm : ((lns g c R' []).map (·.b)).Perm ((lns g c R []).map (·.b)) := by
    unfold lns
    simp only [List.append_nil, List.map_cons, List.map_map]
    exact (hp : (R'.map (·.b)).Perm (R.map (·.b))).cons g
  have h3 := Fr.wroteP hF2 hF'.exs (lns_noV g c R) hpm (fun v hv => (hF'.vars v hv).2)
  rw [lns_app] at h3
  exact Fr.addLn h3 (Fr.ln hF' memH)
section
variable {N : Fm} {Q : Exit → Act → World → Prop} {σ : Store} {S : Nat → Prop} {w0 w : World} {D : List DP} {post : List VB} {ops : Array Oper} {d : Nat} {t : TypeId} {pos : String} {af : Array Edge} {rest : List Oper}
/-- a step that fits, done on lines through its move -/
theorem TL.onMv {x : Operand} {xs : List Operand} {tys : Array TypeId} {s : SP} {xv : IV} {g n c K Kk : Nat} {R : List RB} {F : Nat → Nat → Int} (hF : Fr w0 w (lns g c R post) D S) (hm : dpLn n c R F K ∈ D) (hr : Eng.look σ x = some (mvv s xv)) (hx : looks σ xs = some [.slice (some ⟨g, 0, none⟩) n n]) (hd : Nat.blt d N.n = true)
    (hfit : fits n s) (hR : Rws n c R) (hc : c ≤ 64) (hK : K ≤ 4398046511104) (hKk : Kk ≤ 4398046511104) (hv : s.kind = 3 → LI w.heap (ival s.k) xv ∧ xv.m.n ≤ Kk)
    (Kt : ∀ (w' : World) (R' : List RB), Rws n c R' → Fr w0 w' (lns g c R' post) (dpLn n c R' (stepF s F) (Kk + K + 1) :: D) S → TL Try.prog N .seq ops Q rest ((d, .tuple #[]) :: σ) w') :
    TL Try.prog N .seq ops Q (⟨some d, .call { callee := .invoke x "trellis/steps.on", args := xs.toArray, argTypes := tys }, t, pos, af, none⟩ :: rest) σ w := by
  have fin : ∀ (F' : Nat → Nat → Int) (K' : Nat) (v : Value) (f : FuncId), F' = stepF s F → K' ≤ Kk + K + 1 →
      (∀ S', Fr w w (lns g c R []) [dpLn n c R F K] S' → Cl Try.prog f #[v, .slice (some ⟨g, 0, none⟩) n n] w (RetOn w g n c R F' K' S')) → Cl Try.prog f (v :: [.slice (some ⟨g, 0, none⟩) n n]).toArray w (Back Try.prog N ops Q rest d σ) := by
    intro F' K' v f e hK' h
    subst e
    refine (on_any hF hm h).mono ?_
    rintro _ w' ⟨rfl, R', hR', hF'⟩
    refine Back.mk (Kt w' R' hR' ?_)
    exact Fr.addLn (hF'.weak (List.Sublist.refl _) (fun d hd => List.mem_cons_of_mem _ hd)) ((Fr.ln hF' memH).mono hK')
  unfold mvv at hr
  rcases hfit with ⟨h1, ⟨a1, a2⟩, b1, b2⟩ | ⟨h1, a1, a2⟩ | ⟨h1, ⟨a1, a2⟩, ⟨b1, b2⟩, hne⟩
  · rw [if_pos h1] at hr
    obtain ⟨i, hi⟩ := Int.eq_ofNat_of_zero_le a1
    obtain ⟨j, hj⟩ := Int.eq_ofNat_of_zero_le b1
    refine TL.callI hr hx hd (fin _ K _ _ (by unfold stepF; rw [if_pos h1]) (by omega) fun S' h => ?_)
    rw [hi, hj]
    exact swap_on w g n c i j K R F S' hR (by omega) (by omega) h
  · rw [if_neg (by omega), if_pos h1] at hr
    obtain ⟨i, hi⟩ := Int.eq_ofNat_of_zero_le a1
    refine TL.callI hr hx hd (fin _ K _ _ (by unfold stepF; rw [if_neg (by omega), if_pos h1]) (by omega) fun S' h => ?_)
    rw [hi]
    exact neg_on w g n c i K R F S' hR (by omega) hc (by omega) h
  · rw [if_neg (by omega), if_neg (by omega), if_pos h1] at hr
    obtain ⟨i, hi⟩ := Int.eq_ofNat_of_zero_le a1
    obtain ⟨j, hj⟩ := Int.eq_ofNat_of_zero_le b1
    obtain ⟨hv1, hv2⟩ := hv h1
    refine TL.callI hr hx hd (fin _ (Kk + K + 1) _ _ (by unfold stepF; rw [if_neg (by omega), if_neg (by omega)]) (by omega) fun S' h => ?_)
    rw [hi, hj, ← hv1.val]
    have := add_on w g n c i j K Kk xv R F S' hR (by omega) (by omega) (by omega) hc hK hv2 hKk (Fr.addGI h hv1.g)
    exact this
end
/-- Check's answer -/
def RetCk (w : World) (p : Prop) (e : Ending) (w' : World) : Prop := ∃ z err : Int, e = .returned (.tuple #[.int .i64 z, .int .i64 err]) ∧ (err = 0 ∨ err = 3) ∧ (err = 0 ↔ p) ∧ Ext w w'
def isSideI (z : Int) : Prop := 0 ≤ z ∧ z ≤ 64
def FitAll (n : Int) (L : List SP) : Prop := isSideI n ∧ ∀ s ∈ L, fits n.toNat s
end Go.Proofs.Ytdhmhjbmkimplaa

namespace Go.Proofs.Ytdhmhjbmkimplaa
open Go Go.Eng Go.Proofs Go.NatM Go.RowKit

set_option maxRecDepth 100000 in
set_option maxHeartbeats 800000 in
theorem scheck_in (w : World) (n : Nat) (hn : n ≤ 64) (A : Option Addr) (m k K : Nat) (L : List SP) (hs : Sm 5 spc w.heap w.heap.size A m k L) (hg : ∀ s ∈ L, s.kind = 3 → GI w.heap s.k ∧ s.k.m.n ≤ K) (hK : K ≤ 4398046511104) (hm : m ≤ 1048576) : Cl Try.prog 35 #[.int .i64 (n : Int), .slice A m k] w (RetCk w (∀ s ∈ L, fits n s)) := by
  have hlen := hs.len
  refine enter Try.func35 rfl rfl rfl ?_
  have hF := Fr.refl w
  repeat' (first | (refine TL.isOp ?_; first | (refine TL.isG ?_; first | refine TL.grun rfl rfl rfl ?_) | (refine TL.isBin ?_; refine TL.cmpG rfl rfl rfl rfl (fun hc => ?_) (fun hc => ?_) <;> (try (first | (exfalso; omega) | exact absurd rfl hc))) | (apply TL.ev; (case hd => rfl); (case h => (first | exact ev_simple rfl | exact ev_len rfl)))) | (refine T.is ?_; first | refine T.seq ?_ | refine T.region ?_ | refine T.block ?_ | refine T.cond_f rfl ?_ | refine T.skip ?_) | (refine G.is ?_; first | refine G.next ?_) | refine TL.nil ?_)
  refine T.loop (α := Nat) (fun i => [(0, .int .i64 (n : Int)), (14, .slice A m k), (15, .int .i64 (m : Int)), (16, .int .i64 (i : Int))]) (fun i w' => i ≤ m ∧ (∀ j s, j < i → L[j]? = some s → fits n s) ∧ Fr w w' [] []) (fun i => m - i) 0 (by repeat (first | exact Sub.nil _ | refine Sub.cons rfl ?_ | refine Sub.cons' rfl (int_congr (by omega)) ?_)) ⟨Nat.zero_le _, fun j s hj => absurd hj (Nat.not_lt_zero _), hF⟩ ?_
  clear hF
  rintro i w2 ⟨hi, hq, hF⟩
  rcases Nat.lt_or_ge i m with hin | hin
  · have hy : L[i]? = some (L.getD i default) := by simp [List.getD, show i < L.length by omega]
    have hmem := List.mem_of_getElem? hy
    generalize L.getD i default = y at *
    repeat' (first | (refine TL.isOp ?_; first | (refine TL.isCall ?_; refine TL.call rfl rfl ?_; first | (refine (read_ok _ y K (fun h => ⟨((hg y hmem h).1).ext hF.ext, (hg y hmem h).2⟩) hK).mono ?_; rintro _ w1 ⟨xv, rfl, hLx, hE⟩; replace hF := hF.exts hE; clear hE; refine Back.mk ?_)) | (refine TL.isBin ?_; refine TL.cmpG rfl rfl rfl rfl (fun hc => ?_) (fun hc => ?_) <;> (try (first | (exfalso; omega) | exact absurd rfl hc))) | (apply TL.ev; (case hd => rfl); (case h => (first | exact ev_simple rfl | (apply Ev.isBin; first | exact ev_arN rfl rfl rfl (by omega)) | (apply Ev.isLoad; first | exact ev_loadAFr hF rfl (by refine ⟨?_, ?_⟩; (focus (repeat (first | exact InV.head | apply InV.tail))); rfl) | exact ev_loadM rfl (hs.ext hF.ext) hy) | exact ev_indexM rfl rfl hin (hs.ext hF.ext).some))) | (refine TL.storeAFr hF rfl rfl rfl rfl (by refine ⟨?_, ?_⟩; (focus (repeat (first | apply SetV.head | apply SetV.tail))); rfl) rfl ?_; clear hF; intro ws hF) | (refine TL.allocFr hF (d := 7) rfl rfl ?_; clear hF; intro w7 b7 hF) | (refine TL.fitsMv (s := y) (n := n) rfl rfl rfl (fun b wf hb hE => ?_); replace hF := hF.exts hE; clear hE; cases b)) | (refine T.is ?_; first | refine T.seq ?_ | refine T.region ?_ | refine T.block ?_ | refine T.cond_t rfl ?_ | refine T.cond_f rfl ?_ | refine T.ret ?_ | refine T.skip ?_) | (refine G.is ?_; first | refine G.next ?_ | refine G.blockN ?_ | refine G.blockR ?_ | refine G.thenR ?_) | refine TL.nil ?_)
    · exact G.ret2 rfl rfl rfl ⟨i, 3, rfl, .inr rfl, ⟨fun h => absurd h (by decide), fun h => (by have := hb.2 (h y hmem); cases this)⟩, hF.ext⟩
    · refine G.again (i + 1) (by repeat (first | exact Sub.nil _ | refine Sub.cons rfl ?_ | refine Sub.cons' rfl (int_congr (by omega)) ?_)) ⟨by omega, fun j s hj hs' => ?_, hF.weak (List.nil_sublist _) allN⟩ (by omega)
      rcases Nat.lt_or_ge j i with h1 | h1
      · exact hq j s h1 hs'
      · obtain rfl : j = i := by omega
        rw [hy] at hs'; cases hs'
        exact hb.1 rfl
  · obtain rfl : i = m := by omega
    repeat' (first | (refine TL.isOp ?_; first | (refine TL.isBin ?_; refine TL.cmpG rfl rfl rfl rfl (fun hc => ?_) (fun hc => ?_) <;> (try (first | (exfalso; omega) | exact absurd rfl hc))) | (apply TL.ev; (case hd => rfl); (case h => (first | exact ev_simple rfl)))) | (refine T.is ?_; first | refine T.seq ?_ | refine T.region ?_ | refine T.cond_f rfl ?_ | refine T.exit ?_ | refine T.ret ?_) | (refine G.is ?_; first | refine G.next ?_ | refine G.blockE ?_ | refine G.thenE ?_) | refine TL.nil ?_)
    refine G.ret2 rfl rfl rfl ⟨-1, 0, rfl, .inl rfl, ⟨fun _ s hs' => ?_, fun _ => rfl⟩, hF.ext⟩
    obtain ⟨j, hj⟩ := List.getElem?_of_mem hs'
    exact hq j s (by have := (List.getElem?_eq_some_iff.1 hj).1; omega) hj
theorem LsK.snoc {H : Array Obj} {n K : Nat} {l : List IV} {Z : Nat → Int} {x : IV} (h : LsK n l Z K H) (hn : l.length = n) (hx : LI H (Z n) x) (hK : x.m.n ≤ K) : LsK (n + 1) (l ++ [x]) Z K H := by
  intro q hq
  rcases Nat.lt_or_ge q n with h1 | h1
  · have e1 : (l ++ [x]).getD q default = l.getD q default := by simp only [List.getD]; rw [List.getElem?_append_left (by omega)]
    rw [e1]; exact h q h1
  · obtain rfl : q = n := by omega
    have e1 : (l ++ [x]).getD q default = x := by subst hn; simp [List.getD]
    rw [e1]; exact ⟨hx, hK⟩
/-- the matrix of lines under way -/
def MtS (w w' : World) (gm b4 b5 g n c : Nat) (R : List RB) (F : Nat → Nat → Int) (K q : Nat) (S : Nat → Prop) : Prop :=
  ∃ (l : List IV) (zs : List Value), l.length = q ∧ q ≤ n * c ∧ zs.length = (n * c - q) * 2 ∧ zs.all noU64 = true ∧
    Fr w w' (⟨gm, 40, l.flatMap ivc ++ zs⟩ :: ⟨b5, 24, [.int .i64 (n : Int), .int .i64 (c : Int), .slice (some ⟨gm, 0, none⟩) q (n * c)]⟩ :: ⟨b4, 24, [.int .i64 0, .int .i64 0, .slice none 0 0]⟩ :: lns g c R []) [dpLn n c R F K, dpLK q l (fun q => F (q / c) (q % c)) K] S
set_option maxRecDepth 100000 in
set_option maxHeartbeats 800000 in
theorem matrix_ok (w : World) (g n c K : Nat) (R : List RB) (F : Nat → Nat → Int) (S : Nat → Prop) (hR : Rws n c R) (hn : n ≤ 64) (hcc : c ≤ 64) (hS : ∀ k, S k → ∃ v ∈ lns g c R [], v.b = k) (hK : K ≤ 8796093022000) (hF : Fr w w (lns g c R []) [dpLn n c R F K] S) :
    Cl Try.prog 38 #[.slice (some ⟨g, 0, none⟩) n n, .int .i64 (c : Int)] w (fun e w' => ∃ x : MV, e = .returned (.agg (mvc x).toArray) ∧ LM w'.heap x n c F K ∧ Fr w w' (lns g c R []) [] S ∧ MF w x) := by
  have hm := mul64 hn hcc
  refine enter Try.func38 rfl rfl rfl ?_
  repeat' (first | (refine TL.isOp ?_; first | (apply TL.ev; (case hd => rfl); (case h => (first | exact ev_simple rfl | (apply Ev.isBin; first | exact ev_arN rfl rfl rfl (by omega)) | exact ev_len rfl | exact ev_buildX rfl rfl))) | (refine TL.storeAFr hF rfl rfl rfl rfl (by refine ⟨?_, ?_⟩; (focus (repeat (first | apply SetV.head | apply SetV.tail))); rfl) rfl ?_; clear hF; intro ws hF) | (refine TL.allocFr hF (d := 4) rfl rfl ?_; clear hF; intro w4 b4 hF) | (refine TL.allocFr hF (d := 5) rfl rfl ?_; clear hF; intro w5 b5 hF) | (refine TL.makeFr hF ivc ⟨false, ⟨none, 0, 0, []⟩⟩ (d := 17) rfl rfl rfl (Nat.zero_le _) (by omega) rfl rfl rfl ?_; clear hF; intro w17 b17 hF)) | (refine T.is ?_; first | refine T.seq ?_ | refine T.region ?_ | refine T.block ?_) | (refine G.is ?_; first | refine G.next ?_) | refine TL.nil ?_)
  have hr0 : (List.replicate (n * c) (⟨false, ⟨none, 0, 0, []⟩⟩ : IV)).flatMap ivc = [].flatMap ivc ++ (List.replicate (n * c) (⟨false, ⟨none, 0, 0, []⟩⟩ : IV)).flatMap ivc := by simp
  rw [hr0] at hF
  have hS0 : MtS w ws b17 b4 b5 g n c R F K 0 S := ⟨[], _, rfl, Nat.zero_le _, by rw [flatMap_len (k := 2) (fun x _ => rfl)]; simp, ivc_noV _, Fr.flip2 (Fr.addLK hF.swap (fun q hq => absurd hq (Nat.not_lt_zero _)))⟩
  clear hF hr0
  refine T.loop (α := Nat) (fun i => [(4, .pointer (some ⟨b4, 0, none⟩)), (5, .pointer (some ⟨b5, 0, none⟩)), (19, .slice (some ⟨g, 0, none⟩) n n), (20, .int .i64 (n : Int)), (21, .int .i64 (i : Int))])
    (fun i w' => i ≤ n ∧ MtS w w' b17 b4 b5 g n c R F K (i * c) S) (fun i => n - i) 0 (by repeat (first | exact Sub.nil _ | refine Sub.cons rfl ?_ | refine Sub.cons' rfl (int_congr (by omega)) ?_)) ⟨Nat.zero_le _, by rw [Nat.zero_mul]; exact hS0⟩ ?_
  clear hS0
  rintro i w2 ⟨hi, l, zs, hl, hq1, hzs, hzn, hF⟩
  rcases Nat.lt_or_ge i n with hin | hin
  · obtain ⟨x, hx, hxl, hxd⟩ := hR.at hin
    have hrow : i * c + c ≤ n * c := by have := Nat.mul_le_mul_right c (show i + 1 ≤ n from hin); rw [Nat.add_mul, Nat.one_mul] at this; exact this
    repeat' (first | (refine TL.isOp ?_; first | (refine TL.isBin ?_; refine TL.cmpG rfl rfl rfl rfl (fun hc => ?_) (fun hc => ?_) <;> (try (first | (exfalso; omega) | exact absurd rfl hc))) | (apply TL.ev; (case hd => rfl); (case h => (first | exact ev_simple rfl | exact ev_len rfl | exact ev_indexN rfl rfl hin (.inr rfl) | exact ev_row hF rfl hx (by repeat (first | exact InV.head' | apply InV.tail)))))) | (refine T.is ?_; first | refine T.seq ?_ | refine T.region ?_ | refine T.block ?_ | refine T.cond_t rfl ?_ | refine T.skip ?_) | (refine G.is ?_; first | refine G.next ?_) | refine TL.nil ?_)
    refine T.loop (α := Nat) (fun q => [(4, .pointer (some ⟨b4, 0, none⟩)), (5, .pointer (some ⟨b5, 0, none⟩)), (19, .slice (some ⟨g, 0, none⟩) n n), (20, .int .i64 (n : Int)), (21, .int .i64 (i : Int)), (25, .slice (some ⟨x.b, 0, none⟩) c c), (26, .int .i64 (c : Int)), (27, .int .i64 (q : Int))])
      (fun q w' => q ≤ c ∧ MtS w w' b17 b4 b5 g n c R F K (i * c + q) S) (fun q => c - q) 0 (by repeat (first | exact Sub.nil _ | refine Sub.cons rfl ?_ | refine Sub.cons' rfl (int_congr (by omega)) ?_)) ⟨Nat.zero_le _, l, zs, hl, hq1, hzs, hzn, hF⟩ ?_
    clear hF hzs hl hzn
    rintro q w3 ⟨hq, l, zs, hl, hq2, hzs, hzn, hF⟩
    rcases Nat.lt_or_ge q c with hqn | hqn
    · have hy : x.l[q]? = some (x.l.getD q default) := by simp [List.getD, show q < x.l.length by omega]
      obtain ⟨y, ey⟩ : ∃ y, x.l.getD q default = y := ⟨_, rfl⟩
      rw [ey] at hy
      have hky : LI w3.heap (F i q) y ∧ y.m.n ≤ K := by
        have h := (Fr.ln hF (R := R) (F := F) (K := K) (n := n) (by repeat (first | exact memH | apply memT))) i hin q hqn
        rw [hxd, ey] at h
        exact h
      replace hF := Fr.addLI hF hky.1
      have hyn := hky.2
      clear hky
      repeat' (first | (refine TL.isOp ?_; first | (refine TL.isCall ?_; refine TL.call rfl rfl ?_; first | (refine (zleast_ok _ y (Fr.li hF (x := y) (by repeat (first | exact memH | apply memT))).g (by omega)).mono ?_; rintro _ w1 ⟨u, rfl, hLu, hE, hKu⟩; rw [(Fr.li hF (x := y) (by repeat (first | exact memH | apply memT))).val] at hLu; replace hF := Fr.addLI (hF.exts hE) hLu; clear hE hLu; refine Back.mk ?_)) | (refine TL.isBin ?_; refine TL.cmpG rfl rfl rfl rfl (fun hc => ?_) (fun hc => ?_) <;> (try (first | (exfalso; omega) | exact absurd rfl hc))) | (apply TL.ev; (case hd => rfl); (case h => (first | exact ev_simple rfl | (apply Ev.isBin; first | exact ev_arN rfl rfl rfl (by omega)) | (apply Ev.isLoad; first | exact ev_loadM rfl (row_sm (r := x) hF hxl (by repeat (first | exact InV.row hx | apply InV.tail))) hy) | exact ev_indexM rfl rfl hqn (.inr rfl)))) | (refine TL.storeAFr hF rfl rfl rfl rfl (by refine ⟨?_, ?_⟩; (focus (repeat (first | apply SetV.head | apply SetV.tail))); rfl) rfl ?_; clear hF; intro ws hF) | (refine TL.storeFr hF rfl rfl rfl rfl (by refine ⟨?_, ?_⟩; (focus (repeat (first | apply SetV.head | apply SetV.tail))); rfl) rfl ?_; clear hF; intro ws hF) | (refine TL.allocFr hF (d := 9) rfl rfl ?_; clear hF; intro w9 b9 hF) | (refine TL.buildXs hF (f := ivc) (d := 35) [u] [.tmp 34] rfl rfl rfl rfl (by intro v hv; rw [List.mem_singleton] at hv; subst hv; rfl) rfl rfl (by omega) (by omega) ?_; clear hF; intro w35 b35 hF hEn hbn hSn) | (refine TL.appendAtFr (f := ivc) (l := l) (zs := zs) hF rfl rfl rfl rfl hSn (fun _ => rfl) (fun _ => rfl) rfl rfl hl hzs hq2 (ivc_all l zs hzn) (by omega) (by repeat (first | apply SetV.head | apply SetV.tail)) (fun hle wn hFn => ?_) (fun hgr => absurd hgr (by omega)); clear hF hSn hEn hbn; have hF := hFn; clear hFn)) | (refine TF.is ?_; first | refine TF.nil ?_ | refine TF.e rfl ?_ | (refine TF.pick rfl ?_; first | (apply TFo.ev; (case hd => rfl); (case h => (intro wh hF; first | (apply Ev.isLoad; first | exact ev_loadFr hF rfl (by refine ⟨?_, ?_⟩; (focus (repeat (first | exact InV.head | apply InV.tail))); rfl) | exact ev_loadAFr hF rfl (by refine ⟨?_, ?_⟩; (focus (repeat (first | exact InV.head | apply InV.tail))); rfl)) | exact ev_fieldAddr rfl))))) | (refine T.is ?_; first | refine T.seq ?_ | refine T.region ?_ | refine T.block ?_ | refine T.cond_t rfl ?_ | refine T.skip ?_ | (refine T.regionFt hF.swap 8 7 (.s 0 (.s 1 (.s 2 (.e 3 (.e 4 (.e 5 (.s 6 (.e 7 .nil)))))))) mixed (by kernel_rfl) ?_; clear hF; intro wr hF)) | (refine G.is ?_; first | refine G.next ?_ | refine G.blockN ?_ | refine G.only ?_ | refine G.treeEnd rfl ?_ | refine G.tree rfl (by first | exact hF | exact hF.weak (List.sublist_append_right _ _) (by repeat (first | exact allR | apply allT)) | exact hF.weak (by repeat (first | exact List.Sublist.refl _ | apply List.Sublist.cons)) (by repeat (first | exact allR | apply allT)) | exact hF.weak (by repeat (first | exact List.Sublist.refl _ | apply List.Sublist.cons)) (by repeat (first | exact allN | refine allH (by repeat (first | exact memH | apply memT)) ?_))) ?_) | refine TL.nil ?_)
      have hqd : (i * c + q) / c = i := by rw [Nat.mul_comm, Nat.mul_add_div (by omega), Nat.div_eq_of_lt hqn, Nat.add_zero]
      have hqm : (i * c + q) % c = q := by rw [Nat.mul_comm, Nat.mul_add_mod, Nat.mod_eq_of_lt hqn]
      have hk := (Fr.lk hF (i := i * c + q) (l := l) (Z := fun q => F (q / c) (q % c)) (K := K) (by repeat (first | exact memH | apply memT))).snoc (x := u) hl (by rw [hqd, hqm]; exact Fr.li hF (by repeat (first | exact memH | apply memT))) (by omega)
      refine G.again (q + 1) (by repeat (first | exact Sub.nil _ | refine Sub.cons rfl ?_ | refine Sub.cons' rfl (int_congr (by omega)) ?_)) ⟨by omega, l ++ [u], zs.drop (1 * 2), by simp [hl]; omega, by omega, by rw [List.length_drop]; omega, drop_noV hzn _, ?_⟩ (by omega)
      exact (Fr.addLK hF hk).weak (.cons_cons _ (.cons _ (.refl _))) (allH (by repeat (first | exact memH | apply memT)) (allH (by repeat (first | exact memH | apply memT)) allN))
    · obtain rfl : q = c := by omega
      repeat' (first | (refine TL.isOp ?_; first | (refine TL.isBin ?_; refine TL.cmpG rfl rfl rfl rfl (fun hc => ?_) (fun hc => ?_) <;> (try (first | (exfalso; omega) | exact absurd rfl hc))) | (apply TL.ev; (case hd => rfl); (case h => (first | exact ev_simple rfl | (apply Ev.isBin; first | exact ev_arN rfl rfl rfl (by omega)))))) | (refine T.is ?_; first | refine T.seq ?_ | refine T.region ?_ | refine T.cond_f rfl ?_ | refine T.exit ?_) | (refine G.is ?_; first | refine G.next ?_ | refine G.blockN ?_ | refine G.blockE ?_ | refine G.thenE ?_) | refine TL.nil ?_)
      exact G.again (i + 1) (by repeat (first | exact Sub.nil _ | refine Sub.cons rfl ?_ | refine Sub.cons' rfl (int_congr (by omega)) ?_)) ⟨by omega, by rw [Nat.add_mul, Nat.one_mul]; exact ⟨l, zs, hl, hq2, hzs, hzn, hF⟩⟩ (by omega)
  · obtain rfl : i = n := by omega
    obtain rfl : zs = [] := List.eq_nil_of_length_eq_zero (by rw [hzs]; omega)
    repeat' (first | (refine TL.isOp ?_; first | (refine TL.isBin ?_; refine TL.cmpG rfl rfl rfl rfl (fun hc => ?_) (fun hc => ?_) <;> (try (first | (exfalso; omega) | exact absurd rfl hc))) | (apply TL.ev; (case hd => rfl); (case h => (first | (apply Ev.isLoad; first | exact ev_loadAFr hF rfl (by refine ⟨?_, ?_⟩; (focus (repeat (first | exact InV.head | apply InV.tail))); rfl))))) | (refine TL.storeAFr hF rfl rfl rfl rfl (by refine ⟨?_, ?_⟩; (focus (repeat (first | apply SetV.head | apply SetV.tail))); rfl) rfl ?_; clear hF; intro ws hF)) | (refine T.is ?_; first | refine T.seq ?_ | refine T.region ?_ | refine T.cond_f rfl ?_ | refine T.exit ?_ | refine T.ret ?_) | (refine G.is ?_; first | refine G.next ?_ | refine G.blockE ?_ | refine G.thenE ?_) | refine TL.nil ?_)
    refine G.retC1 rfl rfl (held_agg (hF.var (by repeat (first | exact InV.head | apply InV.tail))) rfl) ⟨⟨(i : Int), (c : Int), some ⟨b17, 0, none⟩, i * c, i * c, l⟩, rfl, ⟨⟨rfl, rfl, hn, hcc, rfl⟩, vr_sm (by omega) (fun _ _ => rfl) (hF.var (.head)) hl (Nat.le_refl _) (hF.var (.head)).lt, fun a b ha hb => ?_⟩, hF.weak (.cons _ (.cons _ (.cons _ (.refl _)))) allN, ?_⟩
    · have hqd : (a * c + b) / c = a := by rw [Nat.mul_comm, Nat.mul_add_div (by omega), Nat.div_eq_of_lt hb, Nat.add_zero]
      have hqm : (a * c + b) % c = b := by rw [Nat.mul_comm, Nat.mul_add_mod, Nat.mod_eq_of_lt hb]
      have h := Fr.lk hF (i := i * c) (l := l) (Z := fun q => F (q / c) (q % c)) (K := K) (by repeat (first | exact memH | apply memT)) (a * c + b) (place_lt ha hb)
      dsimp only at h
      rw [hqd, hqm] at h
      exact h
    · refine .inr ⟨b17, rfl, ?_⟩
      rcases hF.lo .head with h | h
      · exact h
      · obtain ⟨v, hv, e⟩ := hS _ h
        have hd := hF.dist
        rw [List.pairwise_cons] at hd
        exact absurd e.symm (hd.1 v (by simp [hv]))
theorem matrix_any {w0 w : World} {S : Nat → Prop} {g n c K : Nat} {R : List RB} {F : Nat → Nat → Int} {post : List VB} {D : List DP} (hF : Fr w0 w (lns g c R post) D S) (hm : dpLn n c R F K ∈ D) (hR : Rws n c R) (hn : n ≤ 64) (hcc : c ≤ 64) (hK : K ≤ 8796093022000) :
    Cl Try.prog 38 #[.slice (some ⟨g, 0, none⟩) n n, .int .i64 (c : Int)] w (fun e w' => ∃ x : MV, e = .returned (.agg (mvc x).toArray) ∧ Fr w0 w' (lns g c R post) (dpLM x n c F K :: D) S ∧ MF w x) := by
  have h1 : Fr w0 w (lns g c R []) [dpLn n c R F K] S := hF.weak (by unfold lns; exact List.Sublist.cons_cons _ (List.Sublist.append (List.Sublist.refl _) (List.nil_sublist _))) (allH hm allN)
  refine (matrix_ok w g n c K R F _ hR hn hcc (fun k h => h) hK (Fr.self h1)).mono ?_
  rintro _ w' ⟨x, rfl, hL, hF', hMf⟩
  refine ⟨x, rfl, ?_, hMf⟩
  have hF2 : Fr w0 w (lns g c R [] ++ post) D S := by rw [lns_app]; exact hF
  have h3 := Fr.wroteP hF2 hF'.exs (lns_noV g c R) (List.Perm.refl _) (fun v hv => (hF'.vars v hv).2)
  rw [lns_app] at h3
  refine h3.add _ (by unfold dpLM; exact hL) fun v hv hk => ?_
  have hk' : fpA x.A x.n v.b := by unfold dpLM at hk; exact hk
  have h4 := mf_fp hMf _ hk'
  have h5 := (hF.vars v hv).2.lt
  omega
end Go.Proofs.Ytdhmhjbmkimplaa

namespace Go.Proofs.Ytdhmhjbmkimplaa
open Go Go.Eng Go.Proofs Go.NatM Go.RowKit

/-- what steps do to the rows, one after the other -/
def stepsF (L : List SP) (F : Nat → Nat → Int) : Nat → Nat → Int := L.foldl (fun F s => stepF s F) F
def wsum (L : List SP) : Nat := (L.map fun s => s.k.m.n + 1).sum
theorem wsum_le (L : List SP) (i : Nat) : wsum (L.take i) ≤ wsum L := by
  have h := congrArg wsum (List.take_append_drop i L)
  simp only [wsum, List.map_append, List.sum_append] at h
  simp only [wsum]
  omega
theorem wsum_succ {L : List SP} {i : Nat} {y : SP} (h : L[i]? = some y) : wsum (L.take (i + 1)) = wsum (L.take i) + (y.k.m.n + 1) := by
  rw [List.take_add_one, h]; simp [wsum]
theorem stepsF_succ {L : List SP} {i : Nat} {y : SP} {F : Nat → Nat → Int} (h : L[i]? = some y) : stepsF (L.take (i + 1)) F = stepF y (stepsF (L.take i) F) := by
  rw [List.take_add_one, h]; simp [stepsF]
theorem wsum_mem {L : List SP} {y : SP} (h : y ∈ L) : y.k.m.n + 1 ≤ wsum L := by
  induction L with
  | nil => cases h
  | cons x L ih =>
    simp only [wsum, List.map_cons, List.sum_cons] at ih ⊢
    rcases List.mem_cons.1 h with rfl | h
    · omega
    · have := ih h; omega
theorem lns_front (g c : Nat) (R : List RB) (post : List VB) : (lns g c R post).Perm (post ++ lns g c R []) := by
  have e1 : lns g c R post = lns g c R [] ++ post := (lns_app g c R post).symm
  rw [e1]
  exact List.perm_append_comm
theorem dpLn_fp {n c : Nat} {R : List RB} {F : Nat → Nat → Int} {K k : Nat} (h : (dpLn n c R F K).fp k) : False := by unfold dpLn at h; exact h
set_option maxRecDepth 100000 in
set_option maxHeartbeats 800000 in
theorem srows_ok (w : World) (x : MV) (r c K : Nat) (gx : GM w.heap x r c K) (A : Option Addr) (m k : Nat) (L : List SP) (hs : Sm 5 spc w.heap w.heap.size A m k L) (hg : ∀ s ∈ L, GI w.heap s.k) (hm : m ≤ 1048576) (hK : K + wsum L ≤ 1099511627776) (hfit : ∀ s ∈ L, fits r s) :
    Cl Try.prog 9 #[.agg (mvc x).toArray, .slice A m k] w (RetME w r c (stepsF L (ent x c)) (K + wsum L)) := by
  have hlen := hs.len
  have hwm : ∀ s ∈ L, s.k.m.n ≤ 1099511627776 := fun s h => by have := wsum_mem h; omega
  have hck := fun w1 (hE : Ext w w1) => scheck_in w1 r gx.sh.r64 A m k 1099511627776 L (hs.ext hE).size (fun s h _ => ⟨(hg s h).ext hE, hwm s h⟩) (by omega) hm
  have hln := fun w1 (hE : Ext w w1) => linesOf_ok w1 x r c K (gx.ext hE) (by omega)
  have hchk := gx.sh
  have hr := gx.sh.r64
  have hcc := gx.sh.c64
  generalize ent x c = F at *
  have he1 := gx.sh.er
  have he2 := gx.sh.ec
  clear gx
  obtain ⟨xr, xc, A1, n1, k1, l1⟩ := x
  dsimp only at he1 he2
  subst he1 he2
  refine enter Try.func9 rfl rfl rfl ?_
  have hF := Fr.refl w
  repeat' (first | (refine TL.isOp ?_; first | (refine TL.isCall ?_; refine TL.call rfl rfl ?_; first | (refine (chk_ok _ _ r c hchk).mono ?_; rintro _ wy ⟨rfl, hE⟩; replace hF := hF.exts hE; clear hE; refine Back.mk ?_) | (refine (hck _ hF.ext).mono ?_; rintro _ wy ⟨z, err, rfl, _, hiff, hE⟩; obtain rfl := hiff.2 hfit; replace hF := hF.exts hE; clear hE hiff; refine Back.mk ?_) | (refine (hln _ hF.ext).mono ?_; rintro _ wy ⟨g, R, rfl, hR, hLn⟩; replace hF := Fr.join hF hLn (fun d hd k hk => by rw [List.mem_singleton] at hd; subst hd; exact dpLn_fp hk); clear hLn; refine Back.mk ?_)) | (refine TL.isBin ?_; refine TL.cmpG rfl rfl rfl rfl (fun hc => ?_) (fun hc => ?_) <;> (try (first | (exfalso; omega) | exact absurd rfl hc))) | (apply TL.ev; (case hd => rfl); (case h => (first | exact ev_simple rfl | (apply Ev.isLoad; first | exact ev_loadFr hF rfl (by refine ⟨?_, ?_⟩; (focus (repeat (first | exact InV.head | apply InV.tail))); rfl) | exact ev_loadAFr hF rfl (by refine ⟨?_, ?_⟩; (focus (repeat (first | exact InV.head | apply InV.tail))); rfl)) | exact ev_len rfl | exact ev_fieldAddr rfl))) | (refine TL.boxAFr hF (d := 2) (cs := [.int .i64 (r : Int), .int .i64 (c : Int), .slice A1 n1 k1]) rfl rfl ?_; clear hF; intro w2 b2 hF) | (refine TL.allocFr hF (d := 4) rfl rfl ?_; clear hF; intro w4 b4 hF)) | (refine T.is ?_; first | refine T.seq ?_ | refine T.region ?_ | refine T.block ?_ | refine T.cond_f rfl ?_ | refine T.skip ?_) | (refine G.is ?_; first | refine G.next ?_) | refine TL.nil ?_)
  refine T.loop (α := Nat) (fun i => [(2, .pointer (some ⟨b2, 0, none⟩)), (4, .pointer (some ⟨b4, 0, none⟩)), (9, .slice (some ⟨g, 0, none⟩) r r), (31, .slice A m k), (32, .int .i64 (m : Int)), (33, .int .i64 (i : Int))])
    (fun i w' => i ≤ m ∧ ∃ R, Rws r c R ∧ Fr w w' (⟨b4, 24, [.int .i64 0, .int .i64 0, .slice none 0 0]⟩ :: ⟨b2, 24, [.int .i64 (r : Int), .int .i64 (c : Int), .slice A1 n1 k1]⟩ :: lns g c R []) [dpLn r c R (stepsF (L.take i) F) (K + wsum (L.take i))]) (fun i => m - i) 0 (by repeat (first | exact Sub.nil _ | refine Sub.cons rfl ?_ | refine Sub.cons' rfl (int_congr (by omega)) ?_)) ⟨Nat.zero_le _, R, hR, Fr.perm hF (by exact List.perm_append_comm (l₁ := [_, _]) (l₂ := lns g c R []))⟩ ?_
  clear hF hR
  rintro i w2 ⟨hi, R, hR, hF⟩
  rcases Nat.lt_or_ge i m with hin | hin
  · have hy : L[i]? = some (L.getD i default) := by simp [List.getD, show i < L.length by omega]
    have hmem := List.mem_of_getElem? hy
    generalize L.getD i default = y at *
    have e1 := wsum_succ hy
    have e2 := stepsF_succ (F := F) hy
    have e3 := wsum_le L (i + 1)
    repeat' (first | (refine TL.isOp ?_; first | (refine TL.isCall ?_; refine TL.call rfl rfl ?_; first | (refine (read_ok _ y y.k.m.n (fun _ => ⟨(hg y hmem).ext hF.ext, Nat.le_refl _⟩) (by omega)).mono ?_; rintro _ w1 ⟨xv, rfl, hLx, hE⟩; replace hF := hF.exts hE; clear hE; refine Back.mk ?_)) | (refine TL.isBin ?_; refine TL.cmpG rfl rfl rfl rfl (fun hc => ?_) (fun hc => ?_) <;> (try (first | (exfalso; omega) | exact absurd rfl hc))) | (apply TL.ev; (case hd => rfl); (case h => (first | exact ev_simple rfl | (apply Ev.isBin; first | exact ev_arN rfl rfl rfl (by omega)) | (apply Ev.isLoad; first | exact ev_loadAFr hF rfl (by refine ⟨?_, ?_⟩; (focus (repeat (first | exact InV.head | apply InV.tail))); rfl) | exact ev_loadM rfl (hs.ext hF.ext) hy) | exact ev_indexM rfl rfl hin (hs.ext hF.ext).some))) | (refine TL.storeAFr hF rfl rfl rfl rfl (by refine ⟨?_, ?_⟩; (focus (repeat (first | apply SetV.head | apply SetV.tail))); rfl) rfl ?_; clear hF; intro ws hF) | (refine TL.allocFr hF (d := 11) rfl rfl ?_; clear hF; intro w11 b11 hF) | (refine TL.onMv (s := y) (Kk := y.k.m.n) (Fr.perm hF (lns_front g c R [⟨b11, _, _⟩, ⟨b4, _, _⟩, ⟨b2, _, _⟩])) memH rfl rfl rfl (hfit y hmem) hR hcc (by omega) (by omega) hLx (fun wn R' hR' hFn => ?_); clear hF; have hF := Fr.perm hFn (lns_front g c R' _).symm; clear hFn)) | (refine T.is ?_; first | refine T.seq ?_ | refine T.region ?_ | refine T.block ?_ | refine T.cond_t rfl ?_ | refine T.skip ?_) | (refine G.is ?_; first | refine G.next ?_ | refine G.blockN ?_) | refine TL.nil ?_)
    refine G.again (i + 1) (by repeat (first | exact Sub.nil _ | refine Sub.cons rfl ?_ | refine Sub.cons' rfl (int_congr (by omega)) ?_)) ⟨by omega, R', hR', ?_⟩ (by omega)
    rw [e1, e2, show K + (wsum (L.take i) + (y.k.m.n + 1)) = y.k.m.n + (K + wsum (L.take i)) + 1 by omega]
    exact hF.weak (.cons _ (.refl _)) (allH memH allN)
  · obtain rfl : i = m := by omega
    have e1 : L.take i = L := List.take_of_length_le (by omega)
    rw [e1] at hF
    repeat' (first | (refine TL.isOp ?_; first | (refine TL.isCall ?_; refine TL.call rfl rfl ?_; first | (refine (matrix_any (Fr.perm hF (lns_front g c R [⟨b4, _, _⟩, ⟨b2, _, _⟩])) memH hR hr hcc (by omega)).mono ?_; rintro _ w1 ⟨⟨zr, zc, zA, zn, zk, zl⟩, rfl, hFn, hMf⟩; have hMf2 := hMf.mono hF.ext.size; clear hF hMf; have hF := Fr.perm hFn (lns_front g c R _).symm; clear hFn; refine Back.mk ?_)) | (refine TL.isBin ?_; refine TL.cmpG rfl rfl rfl rfl (fun hc => ?_) (fun hc => ?_) <;> (try (first | (exfalso; omega) | exact absurd rfl hc))) | (apply TL.ev; (case hd => rfl); (case h => (first | exact ev_simple rfl | (apply Ev.isLoad; first | exact ev_loadFr hF rfl (by refine ⟨?_, ?_⟩; (focus (repeat (first | exact InV.head | apply InV.tail))); rfl)) | exact ev_fieldAddr rfl))) | (refine TL.storeAFr hF rfl rfl rfl rfl (by refine ⟨?_, ?_⟩; (focus (repeat (first | apply SetV.head | apply SetV.tail))); rfl) rfl ?_; clear hF; intro ws hF)) | (refine T.is ?_; first | refine T.seq ?_ | refine T.region ?_ | refine T.cond_f rfl ?_ | refine T.exit ?_ | refine T.ret ?_) | (refine G.is ?_; first | refine G.next ?_ | refine G.blockE ?_ | refine G.thenE ?_) | refine TL.nil ?_)
    exact G.retC2 rfl rfl rfl (held_agg (hF.var (by repeat (first | exact InV.head | apply InV.tail))) rfl) ⟨⟨zr, zc, zA, zn, zk, zl⟩, rfl, Fr.lm hF (by repeat (first | exact memH | apply memT)), hF.ext, hMf2⟩
end Go.Proofs.Ytdhmhjbmkimplaa

namespace Go.Proofs.Ytdhmhjbmkimplaa
open Go Go.Eng Go.Proofs Go.NatM Go.ChangeShapes Go.WideShapes Go.ChangeAt Go.RowKit Go.Deep

def stw (s : SP) : Nat := s.k.m.n + 1
theorem wts_stw (L : List SP) : wts stw L = wsum L := by
  induction L with
  | nil => rfl
  | cons x L ih => simp only [wts, wsum, List.map_cons, List.sum_cons] at ih ⊢; rw [ih]; rfl
theorem len4v {l : List Value} (h : l.length = 5) : ∃ a b c d e, l = [a, b, c, d, e] := by
  match l, h with
  | [a, b, c, d, e], _ => exact ⟨a, b, c, d, e, rfl⟩
set_option maxRecDepth 10000 in
theorem open_intw {H : Type} {enc : TypeId × Value → H} {W : World} {base : Nat} {spare : Nat → Bool} {held : Bool} (m : Nat) (cs : List Value) (x : DataW H × List MemPlace)
    (h : DataW.trod enc Try.prog W base spare held m 40 cs = some x) : ∃ y : IV, cs = ivc y ∧ GI W.heap y ∧ ivw y + 1 ≤ Rows.uptoBulk x.1 := by
  obtain ⟨xs, q, _, rfl, hl, hxl, hall⟩ := DataW.trod_struct Try.underlying40 h
  have hl' : cs.length = 2 := hl.trans (by kernel_rfl)
  have hxl' : xs.length = 2 := hxl.trans rfl
  obtain ⟨v0, v1, rfl⟩ := len2 hl'
  obtain ⟨x0, x1, rfl⟩ := len2 hxl'
  have cb : Try.prog.cellsOf 4 = 1 := by kernel_rfl
  have cu : Try.prog.cellsOf 38 = 1 := by kernel_rfl
  have h0 : DataW.trod enc Try.prog W base spare held q 4 (([v0, v1].drop 0).take (Try.prog.cellsOf 4)) = some x0 := hall 0 _ rfl
  rw [cb] at h0
  have h1 : DataW.trod enc Try.prog W base spare held q 38 (([v0, v1].drop 1).take (Try.prog.cellsOf 38)) = some x1 := hall 1 _ rfl
  rw [cu] at h1
  obtain ⟨b, e0, _⟩ := DataW.trod_bool Try.underlying4 h0
  obtain rfl : v0 = .bool b := by simpa using e0
  obtain ⟨y1, e1, s1, u1, m1⟩ := open_u64d Try.underlying38 Try.underlying85 (by kernel_rfl) h1
  obtain rfl : v1 = sav y1 := by simpa using e1
  refine ⟨⟨b, y1⟩, rfl, ⟨s1, u1⟩, ?_⟩
  simp only [ivw, List.map_cons, List.map_nil, Rows.uptoBulk, Rows.uptoBulkAll]
  omega
set_option maxRecDepth 10000 in
theorem open_step {H : Type} {enc : TypeId × Value → H} {W : World} {base : Nat} {spare : Nat → Bool} {held : Bool} (m : Nat) (cs : List Value) (x : DataW H × List MemPlace)
    (h : DataW.trod enc Try.prog W base spare held m 42 cs = some x) : ∃ y : SP, cs = spc y ∧ GI W.heap y.k ∧ stw y ≤ Rows.uptoBulk x.1 := by
  obtain ⟨xs, q, _, rfl, hl, hxl, hall⟩ := DataW.trod_struct Try.underlying42 h
  have hl' : cs.length = 5 := hl.trans (by kernel_rfl)
  have hxl' : xs.length = 4 := hxl.trans rfl
  obtain ⟨v0, v1, v2, v3, v4, rfl⟩ := len4v hl'
  obtain ⟨x0, x1, x2, x3, rfl⟩ := len4 hxl'
  have ci : Try.prog.cellsOf 3 = 1 := by kernel_rfl
  have cl : Try.prog.cellsOf 40 = 2 := by kernel_rfl
  have h0 : DataW.trod enc Try.prog W base spare held q 3 (([v0, v1, v2, v3, v4].drop 0).take (Try.prog.cellsOf 3)) = some x0 := hall 0 _ rfl
  rw [ci] at h0
  have h1 : DataW.trod enc Try.prog W base spare held q 3 (([v0, v1, v2, v3, v4].drop 1).take (Try.prog.cellsOf 3)) = some x1 := hall 1 _ rfl
  rw [ci] at h1
  have h2 : DataW.trod enc Try.prog W base spare held q 3 (([v0, v1, v2, v3, v4].drop 2).take (Try.prog.cellsOf 3)) = some x2 := hall 2 _ rfl
  rw [ci] at h2
  have h3 : DataW.trod enc Try.prog W base spare held q 40 (([v0, v1, v2, v3, v4].drop 3).take (Try.prog.cellsOf 40)) = some x3 := hall 3 _ rfl
  rw [cl] at h3
  obtain ⟨z0, e0, b0⟩ := open_i64c Try.underlying3 h0
  obtain rfl : v0 = .int .i64 z0 := by simpa using e0
  obtain ⟨z1, e1, b1⟩ := open_i64c Try.underlying3 h1
  obtain rfl : v1 = .int .i64 z1 := by simpa using e1
  obtain ⟨z2, e2, b2⟩ := open_i64c Try.underlying3 h2
  obtain rfl : v2 = .int .i64 z2 := by simpa using e2
  obtain ⟨y, e3, g3, m3⟩ := open_intw _ _ _ h3
  have e4 : [v3, v4] = ivc y := e3
  obtain ⟨yn, yA, ym, yc, yl⟩ := y
  simp only [ivc, sav, List.cons.injEq, and_true] at e4
  obtain ⟨rfl, rfl⟩ := e4
  refine ⟨⟨z0, z1, z2, ⟨yn, ⟨yA, ym, yc, yl⟩⟩⟩, rfl, g3, ?_⟩
  simp only [stw, ivw, List.map_cons, List.map_nil, Rows.uptoBulk, Rows.uptoBulkAll] at m3 ⊢
  omega
set_option maxRecDepth 100000 in
/-- steps handed in -/
theorem open_steps {H : Type} {enc : TypeId × Value → H} {W : World} {base base' : Nat} {spare : Nat → Bool} {held : Bool} {v : Value} {d : DataW H} {ps : List MemPlace}
    (hv : Value.okWide Try.prog W .any base' 25 v) (h : DataW.Trod enc Try.prog W base spare held 25 v d ps) :
    ∃ A n c L, v = .slice A n c ∧ Sm 5 spc W.heap W.heap.size A n c L ∧ (∀ s ∈ L, GI W.heap s.k) ∧ (wts stw L + 1 ≤ Rows.uptoBulk d ∧ n + 1 ≤ Rows.uptoBulk d) := by
  obtain ⟨A, n, c, rfl⟩ := okWide_slice Try.underlying25 hv
  obtain ⟨fuel, hf⟩ := h
  obtain ⟨A', n', c', L, e, r⟩ := open_elems (x := (d, ps)) spc (fun s => GI W.heap s.k) stw (show 0 < 5 by omega) (fun _ => rfl) Try.underlying25 (by kernel_rfl) (fun m cs x h => open_step m cs x h) hf
  have e' : [Value.slice A n c] = [.slice A' n' c'] := e
  simp at e'
  obtain ⟨rfl, rfl, rfl⟩ := e'
  exact ⟨A, n, c, L, rfl, r⟩
theorem small_steps {n : Nat} {L : List SP} {b : Nat} (h : b ≤ 1048576) (hn : wts stw L + 1 ≤ b ∧ n + 1 ≤ b) : wsum L ≤ 1048576 ∧ n ≤ 1048576 := by rw [← wts_stw]; omega
end Go.Proofs.Ytdhmhjbmkimplaa

namespace Go.Proofs.Ytdhmhjbmkimplaa
open Go Go.Eng Go.Proofs Go.NatM Go.RowKit

theorem srows_unfit (w : World) (x : MV) (r c : Nat) (gx : Sound x r c) (A : Option Addr) (m k K : Nat) (L : List SP) (hs : Sm 5 spc w.heap w.heap.size A m k L) (hg : ∀ s ∈ L, GI w.heap s.k) (hK : wsum L ≤ 1099511627776) (hm : m ≤ 1048576) (hfit : ¬ ∀ s ∈ L, fits r s) :
    Cl Try.prog 9 #[.agg (mvc x).toArray, .slice A m k] w (RetMF w 3) := by
  have hwm : ∀ s ∈ L, s.k.m.n ≤ 1099511627776 := fun s h => by have := wsum_mem h; omega
  have hck := fun w1 (hE : Ext w w1) => scheck_in w1 r gx.r64 A m k 1099511627776 L (hs.ext hE).size (fun s h _ => ⟨(hg s h).ext hE, hwm s h⟩) (by omega) hm
  have hchk := gx
  have he1 := gx.er
  have he2 := gx.ec
  clear gx
  obtain ⟨xr, xc, A1, n1, k1, l1⟩ := x
  dsimp only at he1 he2
  subst he1 he2
  refine enter Try.func9 rfl rfl rfl ?_
  have hF := Fr.refl w
  repeat' (first | (refine TL.isOp ?_; first | (refine TL.isCall ?_; refine TL.call rfl rfl ?_; first | (refine (chk_ok _ _ r c hchk).mono ?_; rintro _ wy ⟨rfl, hE⟩; replace hF := hF.exts hE; clear hE; refine Back.mk ?_) | (refine (hck _ hF.ext).mono ?_; rintro _ wy ⟨z, err, rfl, h03, hiff, hE⟩; obtain rfl := h03.resolve_left (fun h => hfit (hiff.1 h)); replace hF := hF.exts hE; clear hE hiff h03; refine Back.mk ?_)) | (refine TL.isBin ?_; refine TL.cmpG rfl rfl rfl rfl (fun hc => ?_) (fun hc => ?_) <;> (try (first | (exfalso; omega) | exact absurd rfl hc))) | (apply TL.ev; (case hd => rfl); (case h => (first | exact ev_simple rfl | (apply Ev.isLoad; first | exact ev_loadFr hF rfl (by refine ⟨?_, ?_⟩; (focus (repeat (first | exact InV.head | apply InV.tail))); rfl) | exact ev_loadAFr hF rfl (by refine ⟨?_, ?_⟩; (focus (repeat (first | exact InV.head | apply InV.tail))); rfl)) | exact ev_fieldAddr rfl | exact ev_buildX rfl rfl))) | (refine TL.storeAFr hF rfl rfl rfl rfl (by refine ⟨?_, ?_⟩; (focus (repeat (first | apply SetV.head | apply SetV.tail))); rfl) rfl ?_; clear hF; intro ws hF) | (refine TL.boxAFr hF (d := 2) (cs := [.int .i64 (r : Int), .int .i64 (c : Int), .slice A1 n1 k1]) rfl rfl ?_; clear hF; intro w2 b2 hF) | (refine TL.allocFr hF (d := 4) rfl rfl ?_; clear hF; intro w4 b4 hF)) | (refine T.is ?_; first | refine T.seq ?_ | refine T.region ?_ | refine T.cond_t rfl ?_ | refine T.cond_f rfl ?_ | refine T.ret ?_ | refine T.skip ?_) | (refine G.is ?_; first | refine G.next ?_ | refine G.thenR ?_) | refine TL.nil ?_)
  exact G.retC2 rfl rfl rfl (held_agg (hF.var (by repeat (first | exact InV.head | apply InV.tail))) rfl) ⟨rfl, hF.ext⟩
theorem stepF_1 {s : SP} (h : s.kind = 1) (F : Nat → Nat → Int) : stepF s F = fun p q => F (if p = s.j.toNat then s.i.toNat else if p = s.i.toNat then s.j.toNat else p) q := by unfold stepF; rw [if_pos h]
theorem stepF_2 {s : SP} (h : s.kind = 2) (F : Nat → Nat → Int) : stepF s F = fun p q => if p = s.i.toNat then - F s.i.toNat q else F p q := by unfold stepF; rw [if_neg (by omega), if_pos h]
theorem stepF_3 {s : SP} (h : s.kind = 3) (F : Nat → Nat → Int) : stepF s F = fun p q => if p = s.i.toNat then ival s.k * F s.j.toNat q + F s.i.toNat q else F p q := by unfold stepF; rw [if_neg (by omega), if_neg (by omega)]
theorem stepF_congr {s : SP} {r c : Nat} {F G : Nat → Nat → Int} (hf : fits r s) (h : ∀ i j, i < r → j < c → F i j = G i j) : ∀ i j, i < r → j < c → stepF s F i j = stepF s G i j := by
  intro i j hi hj
  rcases hf with ⟨h1, ⟨a1, a2⟩, b1, b2⟩ | ⟨h1, a1, a2⟩ | ⟨h1, ⟨a1, a2⟩, ⟨b1, b2⟩, hne⟩
  · rw [stepF_1 h1, stepF_1 h1]
    refine h _ _ ?_ hj
    split
    · omega
    · split <;> omega
  · rw [stepF_2 h1, stepF_2 h1]
    dsimp only
    rw [h _ _ (show s.i.toNat < r by omega) hj, h i j hi hj]
  · rw [stepF_3 h1, stepF_3 h1]
    dsimp only
    rw [h _ _ (show s.i.toNat < r by omega) hj, h _ _ (show s.j.toNat < r by omega) hj, h i j hi hj]
theorem LM.congrF {H : Array Obj} {x : MV} {r c K : Nat} {F G : Nat → Nat → Int} (h : LM H x r c F K) (e : ∀ i j, i < r → j < c → F i j = G i j) : LM H x r c G K := ⟨h.sh, h.s, fun i j hi hj => by rw [← e i j hi hj]; exact h.g i j hi hj⟩
theorem stepsF_congr {r c : Nat} : ∀ (L : List SP) {F G : Nat → Nat → Int}, (∀ s ∈ L, fits r s) → (∀ i j, i < r → j < c → F i j = G i j) → ∀ i j, i < r → j < c → stepsF L F i j = stepsF L G i j
  | [], F, G, _, h => h
  | s :: L, F, G, hf, h => stepsF_congr L (fun t ht => hf t (List.mem_cons_of_mem _ ht)) (stepF_congr (hf s (List.mem_cons_self ..)) h)
theorem stepF_mul (s : SP) (G B : Nat → Nat → Int) (m : Nat) : stepF s (fun i j => psum (fun q => G i q * B q j) m) = fun i j => psum (fun q => stepF s G i q * B q j) m := by
  funext i j
  unfold stepF
  split
  · rfl
  · split
    · dsimp only
      split
      · rw [← Int.neg_one_mul, ← psum_mul]
        exact psum_congr fun q _ => by rw [← Int.mul_assoc, Int.neg_one_mul]
      · rfl
    · dsimp only
      split
      · rw [← psum_mul, ← psum_add]
        exact psum_congr fun q _ => by rw [Int.add_mul, Int.mul_assoc]
      · rfl
theorem stepsF_mul : ∀ (L : List SP) (G B : Nat → Nat → Int) (m : Nat), stepsF L (fun i j => psum (fun q => G i q * B q j) m) = fun i j => psum (fun q => stepsF L G i q * B q j) m
  | [], G, B, m => rfl
  | s :: L, G, B, m => by
    have := stepsF_mul L (stepF s G) B m
    rw [← stepF_mul] at this
    exact this
def unitF : Nat → Nat → Int := fun i j => if i = j then 1 else 0
/-- steps are a product with what they make of the unit matrix -/
theorem stepsF_prod {r c : Nat} (L : List SP) (B : Nat → Nat → Int) (hf : ∀ s ∈ L, fits r s) : ∀ i j, i < r → j < c → stepsF L B i j = psum (fun q => stepsF L unitF i q * B q j) r := by
  intro i j hi hj
  have h := congrFun (congrFun (stepsF_mul L unitF B r) i) j
  rw [← h]
  refine stepsF_congr (c := c) L hf (fun p q hp hq => ?_) i j hi hj
  unfold unitF
  rw [psum_unit, if_pos hp]
set_option maxRecDepth 100000 in
set_option maxHeartbeats 800000 in
theorem smatrix_ok (w : World) (n : Nat) (hn : n ≤ 64) (A : Option Addr) (m k : Nat) (L : List SP) (hs : Sm 5 spc w.heap w.heap.size A m k L) (hg : ∀ s ∈ L, GI w.heap s.k) (hm : m ≤ 1048576) (hK : 1 + wsum L ≤ 1099511627776) (hfit : ∀ s ∈ L, fits n s) :
    Cl Try.prog 11 #[.int .i64 (n : Int), .slice A m k] w (RetME w n n (stepsF L unitF) (1 + wsum L)) := by
  refine enter Try.func11 rfl rfl rfl ?_
  have hF := Fr.refl w
  repeat' (first | (refine TL.isOp ?_; first | (refine TL.isCall ?_; refine TL.call rfl rfl ?_; first | (refine (munit_ok _ n hn).mono ?_; rintro _ wu ⟨zu, rfl, hLu, hE, hf⟩; have hcg := fun i j hi hj => hLu.ent (i := i) (j := j) hi hj; obtain ⟨Au, ku, lu, rfl⟩ := lm_mk hLu; rw [mvc_mk _ _ Au]; replace hF := Fr.addLM hF hE hLu hf; clear hE hf hLu; refine Back.mk ?_) | (refine (srows_ok _ ⟨n, n, Au, n * n, ku, lu⟩ n n 1 (Fr.lm hF (by repeat (first | exact memH | apply memT))).gm A m k L (hs.ext hF.ext).size (fun s h => (hg s h).ext hF.ext) hm hK hfit).mono ?_; rintro _ wz ⟨⟨zr, zc, zA, zn, zk, zl⟩, rfl, hLz, hE, hf⟩; have hfz := hf.mono hF.ext.size; replace hF := Fr.addLM hF hE hLz hf; clear hE hf hLz; refine Back.mk ?_)) | (refine TL.isBin ?_; refine TL.cmpG rfl rfl rfl rfl (fun hc => ?_) (fun hc => ?_) <;> (try (first | (exfalso; omega) | exact absurd rfl hc))) | (apply TL.ev; (case hd => rfl); (case h => (first | exact ev_simple rfl | (apply Ev.isLoad; first | exact ev_loadAFr hF rfl (by refine ⟨?_, ?_⟩; (focus (repeat (first | exact InV.head | apply InV.tail))); rfl))))) | (refine TL.storeAFr hF rfl rfl rfl rfl (by refine ⟨?_, ?_⟩; (focus (repeat (first | apply SetV.head | apply SetV.tail))); rfl) rfl ?_; clear hF; intro ws hF) | (refine TL.allocFr hF (d := 4) rfl rfl ?_; clear hF; intro w4 b4 hF) | (refine TL.allocFr hF (d := 6) rfl rfl ?_; clear hF; intro w6 b6 hF)) | (refine T.is ?_; first | refine T.seq ?_ | refine T.region ?_ | refine T.cond_f rfl ?_ | refine T.ret ?_ | refine T.skip ?_) | (refine G.is ?_; first | refine G.next ?_) | refine TL.nil ?_)
  refine G.retC2 rfl rfl rfl (held_agg (hF.var (by repeat (first | exact InV.head | apply InV.tail))) rfl) ⟨⟨zr, zc, zA, zn, zk, zl⟩, rfl, (Fr.lm hF (x := ⟨zr, zc, zA, zn, zk, zl⟩) (by repeat (first | exact memH | apply memT))).congrF fun i j hi hj => stepsF_congr L hfit (fun p q hp hq => hcg p q hp hq) i j hi hj, hF.ext, hfz⟩
end Go.Proofs.Ytdhmhjbmkimplaa

namespace Go.Proofs.Ytdhmhjbmkimplaa
open Go Go.Eng Go.Proofs Go.NatM Go.RowKit

theorem like_t (w : World) (x y : IV) (gx : GI w.heap x) (gy : GI w.heap y) (hl : x.m.l = y.m.l) (hn : x.neg = y.neg) (hx : x.m.n ≤ 1099511627776) (hy : y.m.n ≤ 1099511627776) : Cl Try.prog 81 #[.agg (ivc x).toArray, .agg (ivc y).toArray] w (YesM w) := by
  have hs := gx.s
  have hs' := gy.s
  refine enter Try.func81 rfl rfl rfl ?_
  repeat' (first | refine TL.ev (ev_simple rfl) rfl ?_ | refine TL.grun rfl rfl rfl ?_ | (refine TL.call rfl rfl ?_; first | (refine (same_t _ _ _ _ _ _ _ _ _ _ _ (by first | ((repeat (first | assumption | (apply Sl.ext; assumption) | (apply Sm.ext; assumption) | (apply Sl.upd; assumption) | (apply Sm.upd; assumption) | omega)); done) | ((repeat (first | assumption | (apply Sl.ext; assumption) | (apply Sm.ext; assumption) | (apply sl_updV; assumption; (focus (repeat (first | assumption | (apply Vr.ext; assumption) | (apply Vr.updX; assumption; rotate_left; omega)))); rfl))); done)) (by first | ((repeat (first | assumption | (apply Sl.ext; assumption) | (apply Sm.ext; assumption) | (apply Sl.upd; assumption) | (apply Sm.upd; assumption) | omega)); done) | ((repeat (first | assumption | (apply Sl.ext; assumption) | (apply Sm.ext; assumption) | (apply sl_updV; assumption; (focus (repeat (first | assumption | (apply Vr.ext; assumption) | (apply Vr.updX; assumption; rotate_left; omega)))); rfl))); done)) (by omega) (by omega) hl).clX.mono ?_; rintro _ wc ⟨rfl, hzc, hEc⟩; refine Back.mk ?_)) | (refine TL.boxA rfl rfl (fun wb bb ebb hVb hEb hzb => ?_); have hlb := box_lo (w0 := w) (by repeat (first | exact Ext.refl _ | (refine Ext.trans ?_ (by assumption)) | (apply ext_upd; assumption; rotate_left; omega))) ebb) | (refine TL.ev (ev_fieldAddr rfl) rfl ?_) | (refine TL.ev (ev_loadVX rfl (by refine ⟨?_, ?_⟩; (focus (repeat (first | assumption | (apply Vr.ext; assumption) | (apply Vr.updX; assumption; rotate_left; omega)))); rfl)) rfl ?_) | (refine TL.ev (ev_eqlB (r := true) rfl rfl (by rw [hn]; exact beq_self_eq_true _)) rfl ?_) | refine T.seq ?_ | refine T.region ?_ | refine TL.nil ?_ | refine T.ret ?_ | refine G.next ?_)
  exact G.ret1 rfl rfl ⟨rfl, (by repeat (first | exact Ext.refl _ | (refine Ext.trans ?_ (by assumption)) | (apply ext_upd; assumption; rotate_left; omega)))⟩
theorem likeRow_t (w : World) (n : Nat) (A A' : Option Addr) (k k' : Nat) (l l' : List IV) (hs : Sm 2 ivc w.heap w.heap.size A n k l) (hs' : Sm 2 ivc w.heap w.heap.size A' n k' l') (hn : n ≤ 4096)
    (hq : ∀ q, q < n → GI w.heap (l.getD q default) ∧ GI w.heap (l'.getD q default) ∧ (l.getD q default).m.l = (l'.getD q default).m.l ∧ (l.getD q default).neg = (l'.getD q default).neg ∧ (l.getD q default).m.n ≤ 1099511627776 ∧ (l'.getD q default).m.n ≤ 1099511627776) :
    Cl Try.prog 66 #[.slice A n k, .slice A' n k'] w (YesM w) := by
  have hlen := hs.len
  have hlen' := hs'.len
  refine enter Try.func66 rfl rfl rfl ?_
  repeat' (first | refine TL.ev (ev_simple rfl) rfl ?_ | refine TL.ev (ev_len rfl) rfl ?_ | (refine TL.cmpG rfl rfl rfl rfl (fun hc => ?_) (fun hc => ?_) <;> try first | (exfalso; omega) | exact absurd rfl hc) | refine T.seq ?_ | refine T.region ?_ | refine TL.nil ?_ | refine T.block ?_ | refine T.cond_f rfl ?_ | refine T.skip ?_ | refine G.next ?_)
  refine T.loop (α := Nat) (fun i => [(0, .slice A n k), (1, .slice A' n k'), (5, .int .i64 (i : Int))]) (fun i w' => i ≤ n ∧ Ext w w') (fun i => n - i) 0 (by repeat (first | exact Sub.nil _ | refine Sub.cons rfl ?_ | refine Sub.cons' rfl (int_congr (by omega)) ?_)) ⟨Nat.zero_le _, Ext.refl _⟩ ?_
  rintro i w2 ⟨hi, hE2⟩
  have s1 := hs.ext hE2
  have s2 := hs'.ext hE2
  rcases Nat.lt_or_ge i n with hin | hin
  · have y1 : l[i]? = some (l.getD i default) := by simp [List.getD, show i < l.length by omega]
    have y2 : l'[i]? = some (l'.getD i default) := by simp [List.getD, show i < l'.length by omega]
    obtain ⟨q1, q2, q3, q4, q5, q6⟩ := hq i hin
    replace q1 := q1.ext hE2
    replace q2 := q2.ext hE2
    generalize l.getD i default = x1 at *
    generalize l'.getD i default = x2 at *
    repeat' (first | refine TL.ev (ev_simple rfl) rfl ?_ | (refine TL.call rfl rfl ?_; first | (refine (like_t _ x1 x2 (by repeat (first | assumption | (apply GI.ext; assumption))) (by repeat (first | assumption | (apply GI.ext; assumption))) q3 q4 q5 q6).mono ?_; rintro _ wa ⟨rfl, hEa⟩; refine Back.mk ?_; have hza := hEa.size)) | refine TL.ev (ev_len rfl) rfl ?_ | (refine TL.cmpG rfl rfl rfl rfl (fun hc => ?_) (fun hc => ?_) <;> try (exfalso; omega)) | refine TL.ev (ev_arN rfl rfl rfl (by omega)) rfl ?_ | refine TF.nil ?_ | refine TF.e rfl ?_ | refine TF.s rfl (fun _ hh => ev_simple rfl) rfl ?_ | refine T.regionX 6 10 (.s 0 (.s 1 (.s 2 (.s 3 (.s 4 (.s 5 (.s 6 (.s 7 (.e 8 (.s 9 .nil)))))))))) mixed (by kernel_rfl) (fun wr hzr hEr => ?_) | (refine TF.s rfl (fun _ _ => ev_indexM rfl rfl hin s1.some) rfl ?_) | (refine TF.s rfl (fun _ _ => ev_indexM rfl rfl hin s2.some) rfl ?_) | (refine TF.s rfl (fun _ hh => ev_loadM rfl (s1.ext hh) y1) rfl ?_) | (refine TF.s rfl (fun _ hh => ev_loadM rfl (s2.ext hh) y2) rfl ?_) | refine G.tree rfl (by repeat (first | exact Ext.refl _ | (refine Ext.trans ?_ (by assumption)) | (apply ext_upd; assumption; rotate_left; omega))) ?_ | refine T.seq ?_ | refine T.region ?_ | refine TL.nil ?_ | refine T.block ?_ | refine T.cond_t rfl ?_ | refine T.cond_f rfl ?_ | refine T.skip ?_ | refine G.next ?_ | refine G.blockN ?_ | refine G.only ?_)
    exact G.again (i + 1) (by repeat (first | exact Sub.nil _ | refine Sub.cons rfl ?_ | refine Sub.cons' rfl (int_congr (by omega)) ?_)) ⟨by omega, (by repeat (first | exact Ext.refl _ | (refine Ext.trans ?_ (by assumption)) | (apply ext_upd; assumption; rotate_left; omega)))⟩ (by omega)
  · obtain rfl : i = n := by omega
    repeat' (first | refine TL.ev (ev_simple rfl) rfl ?_ | refine TL.ev (ev_len rfl) rfl ?_ | (refine TL.cmpG rfl rfl rfl rfl (fun hc => ?_) (fun hc => ?_) <;> try (exfalso; omega)) | refine T.seq ?_ | refine T.region ?_ | refine TL.nil ?_ | refine T.cond_f rfl ?_ | refine T.exit ?_ | refine T.ret ?_ | refine G.next ?_ | refine G.blockE ?_ | refine G.thenE ?_)
    exact G.ret1 rfl rfl ⟨rfl, hE2⟩
theorem likeMat_t (w : World) (x y : MV) (r c K K' : Nat) (F F' : Nat → Nat → Int) (hx : LM w.heap x r c F K) (hy : LM w.heap y r c F' K') (hF : ∀ i j, i < r → j < c → F i j = F' i j) (hK : K ≤ 1099511627776) (hK' : K' ≤ 1099511627776) :
    Cl Try.prog 33 #[.agg (mvc x).toArray, .agg (mvc y).toArray] w (YesM w) := by
  obtain ⟨xr, xc, A, n, k, l⟩ := x
  obtain ⟨yr, yc, A', n', k', l'⟩ := y
  obtain ⟨h1, h2, h3, h4, h5⟩ := id hx.sh
  obtain ⟨h1', h2', h3', h4', h5'⟩ := id hy.sh
  dsimp only at h1 h2 h5 h1' h2' h5'
  subst h1 h2 h5 h1' h2' h5'
  have hm := mul64 h3 h4
  have hs := hx.s
  have hs' := hy.s
  dsimp only at hs hs'
  have hq : ∀ q, q < r * c → GI w.heap (l.getD q default) ∧ GI w.heap (l'.getD q default) ∧ (l.getD q default).m.l = (l'.getD q default).m.l ∧ (l.getD q default).neg = (l'.getD q default).neg ∧ (l.getD q default).m.n ≤ 1099511627776 ∧ (l'.getD q default).m.n ≤ 1099511627776 := by
    intro q hq
    have hc : 0 < c := by rcases Nat.eq_zero_or_pos c with h0 | h0
                          · rw [h0, Nat.mul_zero] at hq; omega
                          · exact h0
    have e1 : q / c < r := Nat.div_lt_of_lt_mul (by rw [Nat.mul_comm]; omega)
    have e2 : q % c < c := Nat.mod_lt _ hc
    obtain ⟨a1, a2⟩ := hx.g (q / c) (q % c) e1 e2
    obtain ⟨b1, b2⟩ := hy.g (q / c) (q % c) e1 e2
    rw [Nat.div_add_mod'] at a1 a2 b1 b2
    rw [← hF _ _ e1 e2] at b1
    exact ⟨a1.g, b1.g, by rw [a1.d, b1.d], by rw [a1.e, b1.e], Nat.le_trans a2 hK, Nat.le_trans b2 hK'⟩
  refine enter Try.func33 rfl rfl rfl ?_
  repeat' (first | refine TL.ev (ev_simple rfl) rfl ?_ | refine TL.grun rfl rfl rfl ?_ | (refine TL.call rfl rfl ?_; first | (refine (likeRow_t _ (r * c) A A' k k' l l' hsw hsw' hm (fun q h => by obtain ⟨q1, q2, q3⟩ := hq q h; exact ⟨q1.ext (hEb.trans hEd), q2.ext (hEb.trans hEd), q3⟩)).mono ?_; rintro _ wa ⟨rfl, hEa⟩; refine Back.mk ?_; have hza := hEa.size)) | (refine TL.cmpG rfl rfl rfl rfl (fun hc => ?_) (fun hc => ?_) <;> try first | (exfalso; omega) | exact absurd rfl hc) | (refine TL.boxA (cs := [.int .i64 (r : Int), .int .i64 (c : Int), .slice A (r * c) k]) rfl rfl (fun wb bb ebb hVb hEb hzb => ?_)) | (refine TL.boxA (cs := [.int .i64 (r : Int), .int .i64 (c : Int), .slice A' (r * c) k']) rfl rfl (fun wd bd ebd hVd hEd hzd => ?_); have hsw := (hs.ext (hEb.trans hEd)).size; have hsw' := (hs'.ext (hEb.trans hEd)).size) | (refine TL.ev (ev_fieldAddr rfl) rfl ?_) | (refine TL.ev (ev_loadVX rfl (by refine ⟨?_, ?_⟩; (focus (repeat (first | assumption | (apply Vr.ext; assumption) | (apply Vr.updX; assumption; rotate_left; omega)))); rfl)) rfl ?_) | refine T.seq ?_ | refine T.region ?_ | refine TL.nil ?_ | refine T.ret ?_ | refine G.next ?_)
  exact G.ret1 rfl rfl ⟨rfl, (by repeat (first | exact Ext.refl _ | (refine Ext.trans ?_ (by assumption)) | (apply ext_upd; assumption; rotate_left; omega)))⟩
set_option maxHeartbeats 1000000 in
theorem rchk_ok (w : World) (x : MV) (r c : Nat) (hS : Sound x r c) : Cl Try.prog 8 #[.agg (mvc x).toArray] w (fun e w' => e = .returned (.int .i64 0) ∧ Ext w w') := by
  obtain ⟨xr, xc, A, n, k, l⟩ := x
  obtain ⟨h1, h2, h3, h4, h5⟩ := hS
  dsimp only at h1 h2 h5
  subst h1 h2 h5
  have hm := mul64 h3 h4
  refine enter Try.func8 rfl rfl rfl ?_
  repeat' (first | refine TL.ev (ev_simple rfl) rfl ?_ | refine TL.grun rfl rfl rfl ?_ | refine TL.ev (ev_len rfl) rfl ?_ | (refine TL.cmpG rfl rfl rfl rfl (fun hc => ?_) (fun hc => ?_) <;> try first | (exfalso; omega) | exact absurd rfl hc) | refine TL.ev (ev_arN rfl rfl rfl (by omega)) rfl ?_ | (refine TL.boxA (cs := [.int .i64 (r : Int), .int .i64 (c : Int), .slice A (r * c) k]) rfl rfl (fun wb bb ebb hVb hEb hzb => ?_)) | (refine TL.ev (ev_fieldAddr rfl) rfl ?_) | (refine TL.ev (ev_loadVX rfl (by refine ⟨?_, ?_⟩; (focus (repeat (first | assumption | (apply Vr.ext; assumption) | (apply Vr.updX; assumption; rotate_left; omega)))); rfl)) rfl ?_) | refine T.seq ?_ | refine T.region ?_ | refine TL.nil ?_ | refine T.cond_f rfl ?_ | refine T.ret ?_ | refine T.skip ?_ | refine G.next ?_)
  exact G.ret1 rfl rfl ⟨rfl, hEb⟩
set_option maxHeartbeats 1000000 in
theorem rchk_bad (w : World) (x : MV) (h : ∀ r c, ¬ Sound x r c) : Cl Try.prog 8 #[.agg (mvc x).toArray] w (fun e w' => e = .returned (.int .i64 1) ∧ Ext w w') := by
  obtain ⟨xr, xc, A, n, k, l⟩ := x
  by_cases hin : (0 ≤ xr ∧ xr ≤ 64) ∧ (0 ≤ xc ∧ xc ≤ 64)
  · obtain ⟨r, rfl⟩ := Int.eq_ofNat_of_zero_le hin.1.1
    obtain ⟨c, rfl⟩ := Int.eq_ofNat_of_zero_le hin.2.1
    have hr : r ≤ 64 := by omega
    have hc : c ≤ 64 := by omega
    have hm := mul64 hr hc
    have hn : n ≠ r * c := fun e => h r c ⟨rfl, rfl, hr, hc, e⟩
    generalize hp : r * c = p at *
    refine enter Try.func8 rfl rfl rfl ?_
    repeat' (first | refine TL.ev (ev_simple rfl) rfl ?_ | refine TL.grun rfl rfl rfl ?_ | refine TL.ev (ev_len rfl) rfl ?_ | (refine TL.cmpG rfl rfl rfl rfl (fun hc => ?_) (fun hc => ?_) <;> try first | (exfalso; omega) | exact absurd rfl hc) | refine TL.ev (ev_arN rfl rfl rfl (by omega)) rfl ?_ | (refine TL.boxA (cs := [.int .i64 (r : Int), .int .i64 (c : Int), .slice A n k]) rfl rfl (fun wb bb ebb hVb hEb hzb => ?_)) | (refine TL.ev (ev_fieldAddr rfl) rfl ?_) | (refine TL.ev (ev_loadVX rfl (by refine ⟨?_, ?_⟩; (focus (repeat (first | assumption | (apply Vr.ext; assumption) | (apply Vr.updX; assumption; rotate_left; omega)))); rfl)) rfl ?_) | refine T.seq ?_ | refine T.region ?_ | refine TL.nil ?_ | refine T.cond_t rfl ?_ | refine T.ret ?_ | refine G.next ?_ | refine G.thenR ?_)
    all_goals exact G.ret1 rfl rfl ⟨rfl, hEb⟩
  · refine enter Try.func8 rfl rfl rfl ?_
    repeat' (first | refine TL.ev (ev_simple rfl) rfl ?_ | refine TL.grun rfl rfl rfl ?_ | refine TL.gskip rfl rfl rfl rfl ?_ | (refine TL.cmpG rfl rfl rfl rfl (fun hc => ?_) (fun hc => ?_) <;> try first | (exfalso; omega) | exact absurd rfl hc) | (refine TL.boxA (cs := [.int .i64 xr, .int .i64 xc, .slice A n k]) rfl rfl (fun wb bb ebb hVb hEb hzb => ?_)) | (refine TL.ev (ev_fieldAddr rfl) rfl ?_) | (refine TL.ev (ev_loadVX rfl (by refine ⟨?_, ?_⟩; (focus (repeat (first | assumption | (apply Vr.ext; assumption) | (apply Vr.updX; assumption; rotate_left; omega)))); rfl)) rfl ?_) | refine T.seq ?_ | refine T.region ?_ | refine TL.nil ?_ | refine T.cond_t rfl ?_ | refine T.ret ?_ | refine G.next ?_ | refine G.thenR ?_)
    all_goals exact G.ret1 rfl rfl ⟨rfl, hEb⟩
end Go.Proofs.Ytdhmhjbmkimplaa

namespace Go.Proofs.Ytdhmhjbmkimplaa
open Go Go.Eng Go.Proofs Go.NatM Go.RowKit

theorem num_ok (w : World) {z : Int} {n : Nat} [e0 : IsN z n] (h0 : 0 < n) (hn : n < 2147483648) : Cl Try.prog 23 #[.int .i64 z] w (fun e w' => ∃ A, e = .returned (.agg (ivc ⟨false, ⟨A, 1, 1, [n]⟩⟩).toArray) ∧ LI w'.heap n ⟨false, ⟨A, 1, 1, [n]⟩⟩ ∧ Ext w w') := by
  obtain rfl := e0.out
  refine enter Try.func23 rfl rfl rfl ?_
  repeat' (first | refine TL.ev (ev_simple rfl) rfl ?_ | (refine TL.cmpG rfl rfl rfl rfl (fun hc => ?_) (fun hc => ?_) <;> try (exfalso; omega)) | refine TL.ev (ev_convU rfl (by omega)) rfl ?_ | (refine TL.build1U rfl rfl (fun wn bn ebn hBn hEn hzn => ?_); have hSn := hBn.slN (n := 1) (c := 1) rfl (Nat.le_refl _) hBn.lt) | (refine TL.alloc rfl (fun wa ba eba hVa hEa hza => ?_); have hla := box_lo (w0 := w) (by repeat (first | exact Ext.refl _ | (refine Ext.trans ?_ (by assumption)) | (apply ext_upd; assumption; rotate_left; omega))) eba) | (refine TL.storeVX rfl rfl rfl rfl (by refine ⟨?_, ?_⟩; (focus (repeat (first | assumption | (apply Vr.ext; assumption) | (apply Vr.updX; assumption; rotate_left; omega)))); rfl) (fun ws hVs hUs hzs => ?_)) | (refine TL.ev (ev_buildX rfl rfl) rfl ?_) | refine T.seq ?_ | refine T.region ?_ | refine TL.nil ?_ | refine T.cond_f rfl ?_ | refine T.ret ?_ | refine T.skip ?_ | refine G.next ?_)
  have hS : Sl u64v ws.heap wn.heap.size (some ⟨bn, 0, none⟩) 1 1 [n] := (by first | ((repeat (first | assumption | (apply Sl.ext; assumption) | (apply Sm.ext; assumption) | (apply Sl.upd; assumption) | (apply Sm.upd; assumption) | omega)); done) | ((repeat (first | assumption | (apply Sl.ext; assumption) | (apply Sm.ext; assumption) | (apply sl_updV; assumption; (focus (repeat (first | assumption | (apply Vr.ext; assumption) | (apply Vr.updX; assumption; rotate_left; omega)))); rfl))); done))
  exact G.retC1 rfl rfl (held_agg hVs rfl) ⟨_, rfl, ⟨⟨hS.size, U64.one (by omega)⟩, by rw [Int.natAbs_natCast, dig_small (by omega) (by omega)], (decide_eq_false (by omega)).symm⟩, (by repeat (first | exact Ext.refl _ | (refine Ext.trans ?_ (by assumption)) | (apply ext_upd; assumption; rotate_left; omega)))⟩
theorem num_0 (w : World) : Cl Try.prog 23 #[.int .i64 0] w (fun e w' => e = .returned (.agg #[.bool false, .slice none 0 0]) ∧ Ext w w') := by
  refine enter Try.func23 rfl rfl rfl ?_
  repeat' (first | refine TL.ev (ev_simple rfl) rfl ?_ | (refine TL.cmpG rfl rfl rfl rfl (fun hc => ?_) (fun hc => ?_) <;> try first | (exfalso; omega) | exact absurd rfl hc) | (refine TL.alloc rfl (fun wa ba eba hVa hEa hza => ?_); have hla := box_lo (w0 := w) (by repeat (first | exact Ext.refl _ | (refine Ext.trans ?_ (by assumption)) | (apply ext_upd; assumption; rotate_left; omega))) eba) | (refine TL.storeVX rfl rfl rfl rfl (by refine ⟨?_, ?_⟩; (focus (repeat (first | assumption | (apply Vr.ext; assumption) | (apply Vr.updX; assumption; rotate_left; omega)))); rfl) (fun ws hVs hUs hzs => ?_)) | (refine TL.ev (ev_buildX rfl rfl) rfl ?_) | refine T.seq ?_ | refine T.region ?_ | refine TL.nil ?_ | refine T.cond_t rfl ?_ | refine T.cond_f rfl ?_ | refine T.ret ?_ | refine T.skip ?_ | refine G.next ?_ | refine G.thenR ?_)
  exact G.retC1 rfl rfl (held_agg hVs rfl) ⟨rfl, (by repeat (first | exact Ext.refl _ | (refine Ext.trans ?_ (by assumption)) | (apply ext_upd; assumption; rotate_left; omega)))⟩
set_option maxHeartbeats 800000 in
theorem equal_t (w : World) (x y : MV) (r c K K' : Nat) (F F' : Nat → Nat → Int) (hx : LM w.heap x r c F K) (hy : LM w.heap y r c F' K') (hFF : ∀ i j, i < r → j < c → F i j = F' i j) (hK : K ≤ 1099511627776) (hK' : K' ≤ 1099511627776) :
    Cl Try.prog 13 #[.agg (mvc x).toArray, .int .i64 0, .agg (mvc y).toArray, .int .i64 0] w (YesM w) := by
  have hM := fun w1 (hE : Ext w w1) => likeMat_t w1 x y r c K K' F F' (hx.ext hE) (hy.ext hE) hFF hK hK'
  clear hx hy
  obtain ⟨xr, xc, xA, xn, xk, xl⟩ := x
  obtain ⟨yr, yc, yA, yn, yk, yl⟩ := y
  refine enter Try.func13 rfl rfl rfl ?_
  have hF0 := Fr.refl w
  have hF := hF0
  clear hF0
  repeat' (first | (refine TL.isOp ?_; first | (refine TL.isG ?_; first | refine TL.grun rfl rfl rfl ?_) | (refine TL.isCall ?_; refine TL.call rfl rfl ?_; first | (refine (hM _ hF.ext).mono ?_; rintro _ wc ⟨rfl, hE⟩; replace hF := hF.exts hE; clear hE; refine Back.mk ?_)) | (refine TL.isBin ?_; refine TL.cmpG rfl rfl rfl rfl (fun hc => ?_) (fun hc => ?_) <;> (try (first | (exfalso; omega) | exact absurd rfl hc))) | (apply TL.ev; (case hd => rfl); (case h => (first | exact ev_simple rfl | (apply Ev.isLoad; first | exact ev_loadAFr hF rfl (by refine ⟨?_, ?_⟩; (focus (repeat (first | exact InV.head | apply InV.tail))); rfl))))) | (refine TL.boxAFr hF (d := 4) (cs := [.int .i64 xr, .int .i64 xc, .slice xA xn xk]) rfl rfl ?_; clear hF; intro w4 b4 hF) | (refine TL.boxAFr hF (d := 6) (cs := [.int .i64 yr, .int .i64 yc, .slice yA yn yk]) rfl rfl ?_; clear hF; intro w6 b6 hF)) | (refine T.is ?_; first | refine T.seq ?_ | refine T.region ?_ | refine T.ret ?_) | (refine G.is ?_; first | refine G.next ?_) | refine TL.nil ?_)
  exact G.ret1 rfl rfl ⟨rfl, hF.ext⟩
theorem lm_four {H : Array Obj} {A : Option Addr} {a b c d : IV} {p q r s : Int} {K : Nat} (hs : Sm 2 ivc H H.size A 4 4 [a, b, c, d]) (ha : LI H p a) (hb : LI H q b) (hc : LI H r c) (hd : LI H s d) (na : a.m.n ≤ K) (nb : b.m.n ≤ K) (nc : c.m.n ≤ K) (nd : d.m.n ≤ K) :
    LM H ⟨2, 2, A, 4, 4, [a, b, c, d]⟩ 2 2 (fun i j => if i = 0 then (if j = 0 then p else q) else (if j = 0 then r else s)) K :=
  ⟨⟨rfl, rfl, by omega, by omega, rfl⟩, hs, fun i j hi hj => by
    rcases (show i = 0 ∨ i = 1 by omega) with rfl | rfl <;> rcases (show j = 0 ∨ j = 1 by omega) with rfl | rfl
    · exact ⟨ha, na⟩
    · exact ⟨hb, nb⟩
    · exact ⟨hc, nc⟩
    · exact ⟨hd, nd⟩⟩
theorem li_nought0 (H : Array Obj) : LI H 0 ⟨false, ⟨none, 0, 0, []⟩⟩ := ⟨⟨⟨rfl, Nat.le_refl _, .inl rfl⟩, fun x hx => (by cases hx)⟩, by simp [dig], by decide⟩
theorem nought_gi (H : Array Obj) : GI H ⟨false, ⟨none, 0, 0, []⟩⟩ := (li_nought0 H).g
def two (A : Option Addr) : List SP := [⟨1, 0, 1, ⟨false, ⟨none, 0, 0, []⟩⟩⟩, ⟨3, 0, 1, ⟨false, ⟨A, 1, 1, [5]⟩⟩⟩]
theorem two_fits (A : Option Addr) : ∀ s ∈ two A, fits 2 s := by
  intro s hs
  simp only [two, List.mem_cons, List.not_mem_nil, or_false] at hs
  rcases hs with rfl | rfl
  · exact .inl ⟨rfl, by decide, by decide⟩
  · exact .inr (.inr ⟨rfl, (show (0 : Int) ≤ 0 ∧ (0 : Int) < ((2 : Nat) : Int) by decide), (show (0 : Int) ≤ 1 ∧ (1 : Int) < ((2 : Nat) : Int) by decide), (show (0 : Int) ≠ 1 by decide)⟩)
theorem two_F (A : Option Addr) (i j : Nat) (hi : i < 2) (hj : j < 2) : stepsF (two A) unitF i j = if i = 0 then (if j = 0 then 5 else 1) else (if j = 0 then 1 else 0) := by
  have h5 : ival ⟨false, ⟨A, 1, 1, [5]⟩⟩ = 5 := by simp [ival, sgn, val]
  simp only [stepsF, two, List.foldl_cons, List.foldl_nil]
  rw [stepF_3 rfl, stepF_1 rfl]
  dsimp only
  rw [h5]
  rcases (show i = 0 ∨ i = 1 by omega) with rfl | rfl <;> rcases (show j = 0 ∨ j = 1 by omega) with rfl | rfl <;> rfl
theorem matrix_two (w : World) (b : Nat) (A5 : Option Addr) (hs : Sm 5 spc w.heap w.heap.size (some ⟨b, 0, none⟩) 2 2 (two A5)) (h5 : LI w.heap 5 ⟨false, ⟨A5, 1, 1, [5]⟩⟩) :
    Cl Try.prog 11 #[.int .i64 2, .slice (some ⟨b, 0, none⟩) 2 2] w (RetME w 2 2 (fun i j => if i = 0 then (if j = 0 then 5 else 1) else (if j = 0 then 1 else 0)) 4) := by
  refine Cl.mono (R := RetME w 2 2 (stepsF (two A5) unitF) (1 + wsum (two A5))) (smatrix_ok w 2 (by omega) (some ⟨b, 0, none⟩) 2 2 (two A5) hs (fun s h => ?_) (by omega) (show 1 + (0 + 1 + ((1 + 1) + 0)) ≤ 1099511627776 by omega) (two_fits A5)) ?_
  · simp only [two, List.mem_cons, List.not_mem_nil, or_false] at h
    rcases h with rfl | rfl
    · exact nought_gi _
    · exact h5.g
  · rintro e w' ⟨x, rfl, h1, h2, h3⟩
    exact ⟨x, rfl, h1.congrF (two_F A5), h2, h3⟩
set_option maxRecDepth 100000 in
set_option maxHeartbeats 800000 in
theorem awake_ok (w : World) : Cl Try.prog 7 #[] w (YesM w) := by
  refine enter Try.func7 rfl rfl rfl ?_
  have hF := Fr.refl w
  repeat' (first | (refine TL.isOp ?_; first | (refine TL.isCall ?_; refine TL.call rfl rfl ?_; first | (refine (num_ok (n := 5) _ (by omega) (by omega)).mono ?_; rintro _ wz ⟨A5, rfl, hL, hE⟩; replace hF := Fr.addLI (hF.exts hE) hL; clear hE hL; refine Back.mk ?_) | (refine (matrix_two _ _ A5 (Fr.smG hF (by repeat (first | exact memH | apply memT))) (Fr.li hF (by repeat (first | exact memH | apply memT)))).mono ?_; rintro _ wu ⟨⟨ur, uc, uA, un, uk, ul⟩, rfl, hLu, hE, hf⟩; rw [mvc_mk _ _ uA]; replace hF := Fr.addLM hF hE hLu hf; clear hE hf hLu; refine Back.mk ?_)) | (apply TL.ev; (case hd => rfl); (case h => (first | exact ev_simple rfl | exact ev_buildX rfl rfl))) | (refine TL.storeAFr hF rfl rfl rfl rfl (by refine ⟨?_, ?_⟩; (focus (repeat (first | apply SetV.head | apply SetV.tail))); rfl) rfl ?_; clear hF; intro ws hF) | (refine TL.allocFr hF (d := 1) rfl rfl ?_; clear hF; intro w1 b1 hF) | (refine TL.buildXs hF (f := spc) (d := 7) (two A5) [.tmp 4, .tmp 6] rfl rfl rfl rfl (by intro u hu; rfl) rfl rfl (by omega) (by omega) ?_; intro w7 b7 hFn hEn hbn hSn; replace hF := Fr.addSmG hF hFn hbn hSn; clear hFn hEn hbn hSn)) | (refine T.is ?_; first | refine T.seqN 2 rfl ?_ | refine T.region ?_) | (refine G.is ?_; first | refine G.next ?_) | refine TL.nil ?_)
  have hone : True := trivial
  repeat' (first | (refine TL.isOp ?_; first | (refine TL.isG ?_; first | refine TL.grun rfl rfl rfl ?_) | (refine TL.isCall ?_; refine TL.call rfl rfl ?_; first | (refine (num_ok (n := 5) _ (by omega) (by omega)).mono ?_; rintro _ wz ⟨A15, rfl, hL, hE⟩; replace hF := Fr.addLI (hF.exts hE) hL; clear hE hL; refine Back.mk ?_) | (clear hone; refine (num_ok (n := 1) _ (by omega) (by omega)).mono ?_; rintro _ wz ⟨A16, rfl, hL, hE⟩; replace hF := Fr.addLI (hF.exts hE) hL; clear hE hL; refine Back.mk ?_) | (refine (num_ok (n := 1) _ (by omega) (by omega)).mono ?_; rintro _ wz ⟨A17, rfl, hL, hE⟩; replace hF := Fr.addLI (hF.exts hE) hL; clear hE hL; refine Back.mk ?_) | (refine (num_0 _).mono ?_; rintro _ wz ⟨rfl, hE⟩; replace hF := hF.exts hE; clear hE; refine Back.mk ?_) | (refine (likeMat_t _ ⟨ur, uc, uA, un, uk, ul⟩ ⟨2, 2, some ⟨b19, 0, none⟩, 4, 4, _⟩ 2 2 4 4 _ _ (Fr.lm hF (by repeat (first | exact memH | apply memT))) (lm_four (Fr.smG hF (f := ivc) (by repeat (first | exact memH | apply memT))) (Fr.li hF (by repeat (first | exact memH | apply memT))) (Fr.li hF (by repeat (first | exact memH | apply memT))) (Fr.li hF (by repeat (first | exact memH | apply memT))) (li_nought0 _) (by exact Nat.le_of_ble_eq_true rfl) (by exact Nat.le_of_ble_eq_true rfl) (by exact Nat.le_of_ble_eq_true rfl) (by exact Nat.le_of_ble_eq_true rfl)) (fun i j _ _ => rfl) (by omega) (by omega)).mono ?_; rintro _ wc ⟨rfl, hE⟩; replace hF := hF.exts hE; clear hE; refine Back.mk ?_)) | (refine TL.buildXs hF (f := ivc) (d := 19) [⟨false, ⟨A15, 1, 1, [5]⟩⟩, ⟨false, ⟨A16, 1, 1, [1]⟩⟩, ⟨false, ⟨A17, 1, 1, [1]⟩⟩, ⟨false, ⟨none, 0, 0, []⟩⟩] [.tmp 15, .tmp 16, .tmp 17, .tmp 18] rfl rfl rfl rfl (by intro u hu; rfl) rfl rfl (by omega) (by omega) ?_; intro w19 b19 hFn hEn hbn hSn; replace hF := Fr.addSmG hF hFn hbn hSn; clear hFn hEn hbn hSn)) | (refine TF.is ?_; first | refine TF.nil ?_ | refine TF.e rfl ?_ | (refine TF.pick rfl ?_; first | (refine TFo.cmpG rfl rfl rfl rfl (fun hc => ?_) (fun hc => ?_) <;> (try (first | (exfalso; omega) | exact absurd rfl hc))) | (apply TFo.ev; (case hd => rfl); (case h => (intro wh hF; first | exact ev_simple rfl))) | (apply TFo.evg rfl rfl rfl; (case hd => rfl); (case h => (intro wh hF; first | (apply Ev.isLoad; first | exact ev_loadAFr hF rfl (by refine ⟨?_, ?_⟩; (focus (repeat (first | exact InV.head | apply InV.tail))); rfl)) | exact ev_buildX rfl rfl))))) | (refine T.is ?_; first | refine T.seq ?_ | refine T.ret ?_ | (refine T.regionFr hF 2 13 (.s 0 (.s 1 (.s 2 (.s 3 (.e 4 (.e 5 (.e 6 (.e 7 (.e 8 (.s 9 (.e 10 (.s 11 (.s 12 .nil))))))))))))) mixed (by kernel_rfl) ?_; clear hF; intro wr hF)) | (refine G.is ?_; first | refine G.next ?_ | refine G.only ?_ | refine G.tree rfl (by first | exact hF | exact hF.weak (List.sublist_append_right _ _) (by repeat (first | exact allR | apply allT)) | exact hF.weak (by repeat (first | exact List.Sublist.refl _ | apply List.Sublist.cons)) (by repeat (first | exact allR | apply allT)) | exact hF.weak (by repeat (first | exact List.Sublist.refl _ | apply List.Sublist.cons)) (by repeat (first | exact allN | refine allH (by repeat (first | exact memH | apply memT)) ?_))) ?_) | refine TL.nil ?_)
  all_goals exact G.ret1 rfl rfl ⟨rfl, hF.ext⟩
end Go.Proofs.Ytdhmhjbmkimplaa
