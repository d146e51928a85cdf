/- Layer 10: the contract of sparse.Of. Matrices whose block is known whole: build (MatA's walk, told with its block), Diag of nothing, Zero. mat.Zero with its block known whole. Layer 10: the contract of Dense. Layer 10: Of refused, the law's long and mats. Layer 10: the law's mats; grids whose sizes do not fit. Layer 9: Scale, VecMul, Sub, Add and Sub of shapes that do not go, Equal. Layer 10: products and sums of small grids; grids whose sizes do not fit. Layer 10: SparseRing where a matrix has no grid. Layer 10: entries of products and sums of small grids. Layer 10: the changes of a small grid, as functions. mat.Unit with its block known whole. Layer 9: VecMul, Equal. -/
import Derived.Test.YtlpheckjogphmaaPd11
import Derived.Test.YtlpheckjogphmaaPd8
set_option linter.unusedVariables false
set_option linter.unusedSimpArgs false
set_option linter.unusedSectionVars false
namespace Go.Eng
open Go Go.Proofs Go.NatM Go.RowKit Go.Proofs.Ytlpheckjogphmaa
/-- the rows ahead of i, and j places of row i -/
def rowsF (F : Nat → Nat → Int) (c i j : Nat) (k : Int × Int) : Int := if (0 ≤ k.1 ∧ 0 ≤ k.2 ∧ k.2 < (c : Int)) ∧ (k.1 < (i : Int) ∨ (k.1 = (i : Int) ∧ k.2 < (j : Int))) then F k.1.toNat k.2.toNat else 0
theorem rows_zero (F : Nat → Nat → Int) (c : Nat) (k : Int × Int) : rowsF F c 0 0 k = 0 := by unfold rowsF; rw [if_neg (by omega)]
theorem rows_step (F : Nat → Nat → Int) {c i j : Nat} (hj : j < c) (k : Int × Int) : updZ (rowsF F c i j) ((i : Int), (j : Int)) (F i j) k = rowsF F c i (j + 1) k := by
  obtain ⟨k1, k2⟩ := k
  unfold updZ
  by_cases h : ((i : Int), (j : Int)) = (k1, k2)
  · obtain ⟨rfl, rfl⟩ := Prod.mk.inj h
    rw [if_pos rfl]
    unfold rowsF
    rw [if_pos (by dsimp only; omega)]
    rfl
  · rw [if_neg h]
    have h' : ¬ (k1 = (i : Int) ∧ k2 = (j : Int)) := fun e => h (by rw [e.1, e.2])
    unfold rowsF
    dsimp only
    by_cases hw : (0 ≤ k1 ∧ 0 ≤ k2 ∧ k2 < (c : Int)) ∧ (k1 < (i : Int) ∨ (k1 = (i : Int) ∧ k2 < (j : Int)))
    · rw [if_pos hw, if_pos (by omega)]
    · rw [if_neg hw, if_neg (by omega)]
theorem rows_next (F : Nat → Nat → Int) (c i : Nat) (k : Int × Int) : rowsF F c i c k = rowsF F c (i + 1) 0 k := by
  unfold rowsF
  by_cases hw : (0 ≤ k.1 ∧ 0 ≤ k.2 ∧ k.2 < (c : Int)) ∧ (k.1 < (i : Int) ∨ (k.1 = (i : Int) ∧ k.2 < (c : Int)))
  · rw [if_pos hw, if_pos (by omega)]
  · rw [if_neg hw, if_neg (by omega)]
section
variable {S : Nat → Prop} {w0 w w' : World} {L : List VB} {D : List DP}
theorem lf_fpK {A : Option Addr} {n : Nat} (h : LF w A n) (k : Nat) (hk : fpA A n k) : w.heap.size ≤ k := by
  obtain ⟨h0, o, e⟩ := hk
  rcases h with h | ⟨b, hb, hs⟩
  · omega
  · rw [hb] at e; cases e; exact hs
theorem It.cxK {W W' : World} {B b : Nat} {t : TypeId} {cs : List Value} {x : MV} {r c K : Nat} {F : Nat → Nat → Int} (h : Vr W.heap b t cs ∧ LM W.heap x r c F K) (hc : Cx B W W') : Vr W'.heap b t cs ∧ LM W'.heap x r c F K :=
  ⟨by have h1 := h.1; unfold Vr at h1 ⊢; exact (hc.cells _ _ h1 rfl).trans h1, h.2.de hc.de⟩
/-- a matrix whose box is known whole -/
theorem Fr.addBoxK (h : Fr w0 w L D S) (hE : Ext w w') {b : Nat} {t : TypeId} {cs : List Value} {x : MV} {r c K : Nat} {F : Nat → Nat → Int} (hb : w.heap.size ≤ b) (hV : Vr w'.heap b t cs) (hc : cs.all flagless = true) (g : LM w'.heap x r c F K) (hf : MF w x) : Fr w0 w' (⟨b, t, cs⟩ :: L) (dpLM x r c F K :: D) S := by
  refine (h.newGe hb hV hE).add _ (by unfold dpLM; exact g) fun v hv hk => ?_
  have hk' : fpA x.A x.n v.b := by unfold dpLM at hk; exact hk
  rcases List.mem_cons.1 hv with rfl | hv
  · exact g.s.fp_flag hk' hV hc
  · have h1 := (h.vars v hv).2.lt
    have h2 := mf_fp hf _ hk'
    omega
theorem sm_map {α : Type} {k : Nat} {f : α → List Value} {H : Array Obj} {B : Nat} {A : Option Addr} {n c m : Nat} {l : List α} {es : Array MapEntry} {kk : Nat} (hs : Sm k f H B A n c l) (hm : H[m]? = some (.map es kk)) : ¬ fpA A n m := fun ⟨h0, o, e⟩ => by
  have hl := hs.len
  have hp := hs.pos
  rcases hs.mem with h | ⟨b, o', e', _, hc⟩
  · omega
  · rw [e] at e'
    cases e'
    have hw := hs.wid l[0] (List.getElem_mem (by omega))
    have := hc 0 l[0] (List.getElem?_eq_getElem (by omega)) 0 (f l[0])[0] (List.getElem?_eq_getElem (by omega))
    unfold hcell at this
    rw [hm] at this
    cases this
theorem nf_lk {i : Nat} {l : List IV} {Z : Nat → Int} {K m : Nat} : ¬ (dpLK i l Z K).fp m := by unfold dpLK; exact fun h => h
theorem nf_lm {x : MV} {r c K m : Nat} {F : Nat → Nat → Int} (h : ¬ fpA x.A x.n m) : ¬ (dpLM x r c F K).fp m := by unfold dpLM; exact h
end
end Go.Eng
namespace Go.Proofs.Ytlpheckjogphmaa
open Go Go.Eng Go.Proofs Go.NatM Go.RowKit
instance : UFunc Try.prog 85 := ⟨⟨_, _, _, Try.underlying85⟩⟩
theorem putS (w : World) (g m r c N : Nat) (Z : ZF) (p : Int × Int) (x : IV) (z : Int) (hG : GZ w.heap g m r c Z N) (hx : LI w.heap z x) (hn : x.m.n ≤ 16384) :
    Cl Try.prog 49 #[.pointer (some ⟨g, 0, none⟩), spot p, ivA x] w (fun e w' => ∃ N', e = .returned (.tuple #[]) ∧ Exs (fun k => k = m) w w' ∧ GZ w'.heap g m r c (updZ Z p z) N') := by
  obtain ⟨l, hG, hz, rfl, hv⟩ := hG
  refine (gput_ok w g m r c l p x z hG hx hn).mono ?_
  rintro e w' ⟨rfl, hE, hG2⟩
  refine ⟨_, rfl, hE, _, hG2, hz.put _ _, rfl, fun k => ?_⟩
  rw [zv_putL (Gr.nodup hG), hx.val]
  unfold updZ
  rw [hv]
def RetOf (w : World) (r c : Nat) (Z : ZF) (e : Ending) (w' : World) : Prop := ∃ g m N, e = .returned (.tuple #[.pointer (some ⟨g, 0, none⟩), .int .i64 0]) ∧ Ext w w' ∧ w.heap.size ≤ g ∧ w.heap.size ≤ m ∧ GZ w'.heap g m r c Z N
set_option maxRecDepth 100000 in
set_option maxHeartbeats 8000000 in
theorem ofS (w : World) (x : MV) (r c : Nat) (gx : GM w.heap x r c 1048576) (hb : ∀ y ∈ x.l, ¬ big y) :
    Cl Try.prog 9 #[.agg (mvc x).toArray] w (RetOf w r c (rowsF (ent x c) c r 0)) := by
  have hck := fun w1 => chk_ok w1 x r c gx.sh
  have hcl := fun w1 (hE : Ext w w1) => containsLong w1 x.n x.k x.A x.l (gx.s.ext hE).size (by have := gx.sh.n; have h1 := Nat.mul_le_mul gx.sh.r64 gx.sh.c64; omega) (fun y hy => ⟨(gx.g y hy).1.ext hE, Nat.le_trans (gx.g y hy).2 (by omega)⟩) false ⟨fun h => (by cases h), fun ⟨y, hy, h⟩ => absurd h (hb y hy)⟩
  have hln := fun w1 (hE : Ext w w1) => lines_ok w1 x r c 1048576 (gx.ext hE) (by omega)
  have her := gx.sh.er
  have hec := gx.sh.ec
  have hsm : ∀ i j, i < r → j < c → ¬ bigZ (ent x c i j) := fun i j hi hj => by
    have hlt := place_lt hi hj
    have hlen := gx.s.len
    have hxn := gx.sh.n
    have h1 : x.l[i * c + j]? = some (x.l.getD (i * c + j) default) := by simp [List.getD, show i * c + j < x.l.length by omega]
    have h2 := hb _ (List.mem_of_getElem? h1)
    unfold ent
    rw [← big_iff]; exact h2
  obtain ⟨F, hF0⟩ : ∃ F, ent x c = F := ⟨_, rfl⟩
  rw [hF0] at hsm ⊢
  simp only [hF0] at hln
  clear hF0
  obtain ⟨xr, xc, A, n, k, l⟩ := x
  dsimp only at her hec hcl
  subst her hec
  refine enterM Try.func9 rfl rfl rfl (fun _ h => by obtain ⟨_, _, _, h, _⟩ := h; cases h) ?_
  have hF := Fr.refl w
  repeat' (first | (refine TL.isOp ?_; first | (refine TL.isCall ?_; refine TL.call rfl rfl ?_; first | (refine (hck _).mono ?_; rintro _ wy ⟨rfl, hE⟩; replace hF := hF.exts hE; clear hE; refine Back.mk ?_) | (refine (hcl _ hF.ext).mono ?_; rintro _ wy ⟨rfl, hE⟩; replace hF := hF.exts hE; clear hE; refine Back.mk ?_) | (refine (blank_ok _ r c).mono ?_; rintro _ wy ⟨g, m, rfl, hE, hg, hm', hG⟩; have hm := Nat.le_trans hF.exs.size hm'; have hgz := Nat.le_trans hF.exs.size hg; replace hF := Fr.addZ hF hE hg hm' (Z := fun _ => 0) (N := 0) ⟨[], hG, fun _ h => (by cases h), rfl, fun _ => rfl⟩; clear hE hG; refine Back.mk ?_) | (refine (hln _ hF.ext).mono ?_; rintro _ w1 ⟨bm, A1, k1, l1, rfl, hVm, hLm, hE, hbm, hMf⟩; replace hF := Fr.addBoxK hF hE hbm hVm rfl hLm hMf; clear hE hMf hVm; refine Back.mk ?_)) | (refine TL.isBin ?_; refine TL.cmpG rfl rfl rfl rfl (fun hc => ?_) (fun hc => ?_) <;> (try (first | (exfalso; omega) | exact absurd rfl hc))) | (apply TL.ev; (case hd => rfl); (case h => (first | exact ev_simple rfl | (apply Ev.isLoad; first | exact ev_loadFr hF rfl (by refine ⟨?_, ?_⟩; (focus (repeat (first | exact InV.head | apply InV.tail))); rfl) | exact ev_loadAFr hF rfl (by refine ⟨?_, ?_⟩; (focus (repeat (first | exact InV.head | apply InV.tail))); rfl)) | exact ev_fieldAddr rfl))) | (refine TL.storeFr hF rfl rfl rfl rfl (by refine ⟨?_, ?_⟩; (focus (repeat (first | apply SetV.head | apply SetV.tail))); rfl) rfl ?_; clear hF; intro ws hF) | (refine TL.boxAFr hF (d := 1) (cs := [.int .i64 (r : Int), .int .i64 (c : Int), .slice A n k]) rfl rfl ?_; clear hF; intro w1 b1 hF) | (refine TL.allocFr hF (d := 5) rfl rfl ?_; clear hF; intro w5 b5 hF)) | (refine G.is ?_; first | refine G.nextI ?_) | refine TL.nil ?_ | (refine TI.is ?_; first | refine TI.seq ?_ | refine TI.region rfl ?_ | refine TI.block ?_ | refine TI.cond_f rfl ?_ | refine TI.skip ?_))
  have hE1 := hF.ext
  have hr64 := hLm.sh.r64
  have hc64 := hLm.sh.c64
  have e0 : (fun _ : Int × Int => (0 : Int)) = rowsF F c 0 0 := funext fun k => (rows_zero F c k).symm
  rw [e0] at hF
  replace hF : Fr w w1 [⟨bm, 24, [.int .i64 (r : Int), .int .i64 (c : Int), .slice A1 (r * c) k1]⟩, ⟨b5, 26, [.pointer (some ⟨g, 0, none⟩)]⟩] [dpGZ g m r c (rowsF F c 0 0) 0, dpLM ⟨r, c, A1, r * c, k1, l1⟩ r c F 1048576] := hF.weak (by repeat (first | exact List.Sublist.refl _ | apply List.Sublist.cons_cons | apply List.Sublist.cons)) (allH (by repeat (first | exact memH | apply memT)) (allH (by repeat (first | exact memH | apply memT)) allN))
  clear e0
  refine TI.rangeFuncK (lines_iter bm r c 1048576 k1 A1 l1 F (by omega)) rfl inferInstance (fun _ => rfl) rfl ⟨hF.var (by repeat (first | exact InV.head | apply InV.tail)), hLm⟩ (fun W W' h hc => It.cxK h hc)
    (fun i W => ∃ N, Fr w W [⟨bm, 24, [.int .i64 (r : Int), .int .i64 (c : Int), .slice A1 (r * c) k1]⟩, ⟨b5, 26, [.pointer (some ⟨g, 0, none⟩)]⟩] [dpGZ g m r c (rowsF F c i 0) N, dpLM ⟨r, c, A1, r * c, k1, l1⟩ r c F 1048576]) (fun _ _ => False) (fun i W W' ⟨N, h⟩ hc => ⟨N, h.cx hc hE1.size⟩) (fun _ _ _ h _ => h) ⟨0, hF⟩ ?_ ?_ (fun _ _ _ _ _ h => h.elim)
  · clear hF
    rintro L j ⟨i, xA, xn, xk, xl⟩ Wb W hi hL hlp ⟨N, hF⟩ hIt hEb ⟨e1, e2, hLL, hLF⟩
    dsimp only at e1 e2 hLL hLF
    subst e1
    have e3 := e2.symm
    subst e3
    have hB := hE1.size
    repeat' (first | (refine TL.isOp ?_; first | (apply TL.ev; (case hd => rfl); (case h => (first | exact ev_simple rfl)))) | (refine G.is ?_; first | refine G.nextI ?_) | refine TL.nil ?_ | (refine TI.is ?_; first | refine TI.seq ?_ | refine TI.region rfl ?_))
    refine G.begunK ⟨Nat.le_refl _, fun _ _ h _ => h⟩ fun w2 hc2 hl2 => ?_
    have hF0 := (Fr.addLK (Fr.addSm' hF hEb hLL.s (lf_fpK hLF)) hLL.g).cx hc2 hB
    have hF1 : Fr w w2 [⟨bm, 24, [.int .i64 (r : Int), .int .i64 (c : Int), .slice A1 (r * c) k1]⟩, ⟨b5, 26, [.pointer (some ⟨g, 0, none⟩)]⟩] [dpGZ g m r c (rowsF F c i 0) N, dpLK c xl (F i) 1048576, dpSmG 2 ivc xA c xk xl, dpLM ⟨r, c, A1, r * c, k1, l1⟩ r c F 1048576] := hF0.weak (List.Sublist.refl _) (allH (by repeat (first | exact memH | apply memT)) (allH (by repeat (first | exact memH | apply memT)) (allH (by repeat (first | exact memH | apply memT)) (allH (by repeat (first | exact memH | apply memT)) allN))))
    obtain ⟨l', hG', _⟩ := hF1.gz (g := g) (m := m) (by repeat (first | exact memH | apply memT))
    obtain ⟨es, ks, hmp, _⟩ := hG'.mp
    have nx := sm_map (hF1.smG (l := xl) (by repeat (first | exact memH | apply memT))) hmp
    have nm := sm_map (Fr.lm hF1 (x := ⟨r, c, A1, r * c, k1, l1⟩) (r := r) (c := c) (F := F) (K := 1048576) (by repeat (first | exact memH | apply memT))).s hmp
    obtain ⟨S, hO, hF, hSm⟩ := Fr.openK hF1 hm hmp rfl
    clear hF0 hF1 hG' hmp
    repeat' (first | (refine TL.isOp ?_; first | (apply TL.ev; (case hd => rfl); (case h => (first | exact ev_simple rfl | exact ev_len rfl)))) | (refine G.is ?_; first | refine G.nextI ?_) | refine TL.nil ?_ | (refine TI.is ?_; first | refine TI.seq ?_ | refine TI.region rfl ?_ | refine TI.block ?_))
    refine TI.loop (α := Nat × Nat) (fun x => [(5, .pointer (some ⟨b5, 0, none⟩)), (6, .int .i64 (i : Int)), (27, .slice xA c xk), (28, .int .i64 (c : Int)), (29, .int .i64 (x.1 : Int))])
      (fun x W' => x.1 ≤ c ∧ Fr w2 W' [⟨bm, 24, [.int .i64 (r : Int), .int .i64 (c : Int), .slice A1 (r * c) k1]⟩, ⟨b5, 26, [.pointer (some ⟨g, 0, none⟩)]⟩] [dpGZ g m r c (rowsF F c i x.1) x.2, dpLK c xl (F i) 1048576, dpSmG 2 ivc xA c xk xl, dpLM ⟨r, c, A1, r * c, k1, l1⟩ r c F 1048576] S) (fun x => c - x.1) (0, N) (by repeat (first | exact Sub.nil _ | refine Sub.cons rfl ?_ | refine Sub.cons' rfl (int_congr (by omega)) ?_)) ⟨Nat.zero_le _, hF⟩ ?_
    clear hF
    rintro ⟨q, N1⟩ w3 ⟨hq, hF⟩
    dsimp only at hq hF ⊢
    rcases Nat.lt_or_ge q c with hqn | hqn
    · have hx := (Fr.lk hF (i := c) (l := xl) (by repeat (first | exact memH | apply memT))) q hqn
      have hxs := hF.smG (l := xl) (by repeat (first | exact memH | apply memT))
      have hy : xl[q]? = some (xl.getD q default) := by have := hxs.len; simp [List.getD, show q < xl.length by omega]
      obtain ⟨y, ey⟩ : ∃ y, xl.getD q default = y := ⟨_, rfl⟩
      rw [ey] at hx hy
      have hyv := hx.1.val
      have hyn := few_of hx.1 (hsm i q hi hqn)
      replace hF : Fr w2 w3 [⟨bm, 24, [.int .i64 (r : Int), .int .i64 (c : Int), .slice A1 (r * c) k1]⟩, ⟨b5, 26, [.pointer (some ⟨g, 0, none⟩)]⟩] [dpGZ g m r c (rowsF F c i q) N1, dpGI y, dpLK c xl (F i) 1048576, dpSmG 2 ivc xA c xk xl, dpLM ⟨r, c, A1, r * c, k1, l1⟩ r c F 1048576] S := (Fr.addGI hF hx.1.g).weak (List.Sublist.refl _) (allH (by repeat (first | exact memH | apply memT)) (allH (by repeat (first | exact memH | apply memT)) (allH (by repeat (first | exact memH | apply memT)) (allH (by repeat (first | exact memH | apply memT)) (allH (by repeat (first | exact memH | apply memT)) allN)))))
      have hnb := hsm i q hi hqn
      clear ey hx hxs
      obtain ⟨ys, ⟨yA, yn, yc, yl⟩⟩ := y
      dsimp only at hyn
      repeat' (first | (refine TL.isOp ?_; first | (refine TL.isCall ?_; refine TL.call rfl rfl ?_; first | (refine (zleast_ok _ ⟨ys, ⟨yA, yn, yc, yl⟩⟩ (Fr.gi hF (by repeat (first | exact memH | apply memT))) (by dsimp only; omega)).mono ?_; rintro _ wy ⟨z, rfl, hz, hE, hzn⟩; rw [hyv] at hz; replace hF := Fr.swapD (Fr.addLI (hF.exts hE) hz); clear hE hz; refine Back.mk ?_) | (refine (putS _ g m r c N1 (rowsF F c i q) ((i : Int), (q : Int)) z (F i q) (hF.gz (by repeat (first | exact memH | apply memT))) (Fr.li hF (by repeat (first | exact memH | apply memT))) (by dsimp only at hzn; omega)).mono ?_; rintro _ wy ⟨N2, rfl, hE, hG⟩; rw [show updZ (rowsF F c i q) ((i : Int), (q : Int)) (F i q) = rowsF F c i (q + 1) from funext fun k => rows_step F hqn k] at hG; replace hF := hF.callZ hE (.inr hSm) (by repeat (first | exact nfN | refine nfC nf_gi ?_ | refine nfC nf_li ?_ | refine nfC nf_lk ?_ | refine nfC (nf_smG nx) ?_ | refine nfC (nf_lm nm) ?_)) hG; clear hE hG; refine Back.mk ?_)) | (refine TL.isBin ?_; refine TL.cmpG rfl rfl rfl rfl (fun hc => ?_) (fun hc => ?_) <;> (try (first | (exfalso; omega) | exact absurd rfl hc))) | (apply TL.ev; (case hd => rfl); (case h => (first | exact ev_simple rfl | (apply Ev.isBin; first | exact ev_arN rfl rfl rfl (by omega)) | (apply Ev.isLoad; first | exact ev_loadMc [.bool ys, .slice yA yn yc] rfl (Fr.smG hF (l := xl) (by repeat (first | exact memH | apply memT))) hy rfl) | exact ev_indexM rfl rfl hqn (Fr.smG hF (l := xl) (by repeat (first | exact memH | apply memT))).some))) | (refine TL.storeAFr hF rfl rfl rfl rfl (by refine ⟨?_, ?_⟩; (focus (repeat (first | apply SetV.head | apply SetV.tail))); rfl) rfl ?_; clear hF; intro ws hF) | (refine TL.allocFr hF (d := 9) rfl rfl ?_; clear hF; intro w9 b9 hF)) | (refine TF.is ?_; first | refine TF.nil ?_ | refine TF.e rfl ?_ | (refine TF.pick rfl ?_; first | (apply TFo.ev; (case hd => rfl); (case h => (intro wh hF; first | exact ev_simple rfl | (apply Ev.isLoad; first | exact ev_loadFr hF rfl (by refine ⟨?_, ?_⟩; (focus (repeat (first | exact InV.head | apply InV.tail))); rfl) | exact ev_loadAFr hF rfl (by refine ⟨?_, ?_⟩; (focus (repeat (first | exact InV.head | apply InV.tail))); rfl)) | exact ev_buildX rfl rfl))))) | (refine G.is ?_; first | refine G.nextI ?_ | refine G.blockN ?_ | refine G.only ?_ | refine G.treeEnd rfl ?_ | refine G.tree rfl (by first | exact hF | exact hF.weak (List.sublist_append_right _ _) (by repeat (first | exact allR | apply allT)) | exact hF.weak (by repeat (first | exact List.Sublist.refl _ | apply List.Sublist.cons)) (by repeat (first | exact allR | apply allT)) | exact hF.weak (by repeat (first | exact List.Sublist.refl _ | apply List.Sublist.cons)) (by repeat (first | exact allN | refine allH (by repeat (first | exact memH | apply memT)) ?_))) ?_) | refine TL.nil ?_ | (refine TI.is ?_; first | refine TI.seq ?_ | refine TI.region rfl ?_ | refine TI.block ?_ | refine TI.cond_t rfl ?_ | refine TI.skip ?_ | (refine TI.regionFd hF 13 6 (.s 0 (.s 1 (.s 2 (.s 3 (.s 4 (.e 5 (.e 6 .nil))))))) mixed (by kernel_rfl) rfl ?_; clear hF; intro wr hF)))
      all_goals exact G.again (q + 1, N2) (by repeat (first | exact Sub.nil _ | refine Sub.cons rfl ?_ | refine Sub.cons' rfl (int_congr (by omega)) ?_)) ⟨hqn, hF.weak (List.Sublist.cons _ (List.Sublist.refl _)) (allH (by repeat (first | exact memH | apply memT)) (allH (by repeat (first | exact memH | apply memT)) (allH (by repeat (first | exact memH | apply memT)) (allH (by repeat (first | exact memH | apply memT)) allN))))⟩ (by dsimp only; omega)
    · obtain rfl : q = c := by omega
      repeat' (first | (refine TL.isOp ?_; first | (refine TL.isBin ?_; refine TL.cmpG rfl rfl rfl rfl (fun hc => ?_) (fun hc => ?_) <;> (try (first | (exfalso; omega) | exact absurd rfl hc)))) | (refine G.is ?_; first | refine G.nextI ?_ | refine G.blockN ?_ | refine G.blockE ?_ | refine G.thenE ?_) | refine TL.nil ?_ | (refine TI.is ?_; first | refine TI.seq ?_ | refine TI.region rfl ?_ | refine TI.cond_f rfl ?_ | refine TI.exit ?_))
      have hF0 := Fr.shutK hO hF
      rw [show rowsF F q i q = rowsF F q (i + 1) 0 from funext fun k => rows_next F q i k] at hF0
      exact G.roundK (Fr.othersK hO hF) ⟨⟨N1, hF0.weak (List.Sublist.refl _) (allH (by repeat (first | exact memH | apply memT)) (allH (by repeat (first | exact memH | apply memT)) allN))⟩, hF.var (by repeat (first | exact InV.head | apply InV.tail)), Fr.lm hF (by repeat (first | exact memH | apply memT))⟩
  · rintro D w2 hD hDw ⟨N, hF⟩ hIt
    obtain ⟨S, hO, hF⟩ := hF.open
    repeat' (first | (refine TL.isOp ?_; first | (apply TL.ev; (case hd => rfl); (case h => (first | exact ev_simple rfl | (apply Ev.isLoad; first | exact ev_loadFr hF rfl (by refine ⟨?_, ?_⟩; (focus (repeat (first | exact InV.head | apply InV.tail))); rfl)))))) | (refine G.is ?_; first | refine G.nextI ?_ | refine G.blockN ?_) | refine TL.nil ?_ | (refine TI.is ?_; first | refine TI.seq ?_ | refine TI.region rfl ?_ | refine TI.ret ?_))
    have hD2 := (Fr.others hO hF).same D _ hDw rfl
    have hF1 := (Fr.shut hO hF).cx (Cx.shut hD hD2) hE1.size
    exact G.retK2 rfl rfl rfl hD2 ⟨g, m, N, rfl, hF1.ext, hgz, hm, hF1.gz (by repeat (first | exact memH | apply memT))⟩
end Go.Proofs.Ytlpheckjogphmaa

namespace Go.Proofs.Ytlpheckjogphmaa
open Go Go.Eng Go.Proofs Go.NatM Go.RowKit
/-- a new matrix, its block known whole -/
def RetMV (w : World) (r c : Nat) (F : Nat → Nat → Int) (K : Nat) (e : Ending) (w' : World) : Prop := ∃ (b : Nat) (l : List IV), e = .returned (.agg (mvc ⟨(r : Int), (c : Int), some ⟨b, 0, none⟩, r * c, r * c, l⟩).toArray) ∧ Vr w'.heap b 42 (l.flatMap ivc) ∧ l.length = r * c ∧
  (∀ i j, i < r → j < c → LI w'.heap (F i j) (l.getD (i * c + j) default) ∧ (l.getD (i * c + j) default).m.n ≤ K) ∧ Ext w w' ∧ w.heap.size ≤ b
set_option maxRecDepth 100000 in
set_option maxHeartbeats 8000000 in
theorem build_okV (w : World) (r c : Nat) (hr : r ≤ 64) (hc : c ≤ 64) (g : FuncId) (cap : List Value) (hg : IsFn Try.prog g) (F : Nat → Nat → Int) (K : Nat)
    (hF : ∀ (i j : Nat) (w1 : World), i < r → j < c → Ext w w1 → Cl Try.prog g ([Value.int .i64 (i : Int), Value.int .i64 (j : Int)] ++ cap).toArray w1 (RetZ w1 (F i j) K)) :
    Cl Try.prog 74 #[.int .i64 (r : Int), .int .i64 (c : Int), .func (.func g) #[] cap.toArray] w (RetMV w r c F K) := by
  have hm := mul64 hr hc
  refine enter Try.func74 rfl rfl rfl ?_
  repeat' (first | refine TL.ev (ev_simple rfl) rfl ?_ | refine TL.ev (ev_arN rfl rfl rfl (by omega)) rfl ?_ | (refine TL.makeX (z := [.bool false, .slice none 0 0]) rfl rfl rfl (by omega) (by omega) rfl rfl rfl (fun w3 b3 zs eb3 hzl hzn hV3 hE3 hz3 => ?_)) | (refine TL.alloc rfl (fun wa ba eba hVa hEa hza => ?_); have hla := box_lo (w0 := w) (by repeat (first | exact Ext.refl _ | (refine Ext.trans ?_ (by assumption)) | (apply ext_upd; assumption; rotate_left; omega))) eba) | (refine TL.storeVX rfl rfl rfl rfl (by refine ⟨?_, ?_⟩; (focus (repeat (first | assumption | (apply Vr.ext; assumption) | (apply Vr.updX; assumption; rotate_left; omega)))); rfl) (fun ws hVs hUs hzs => ?_)) | (refine TL.ev (ev_buildX rfl rfl) rfl ?_) | refine T.seq ?_ | refine T.region ?_ | refine TL.nil ?_ | refine T.block ?_ | refine G.next ?_)
  rename_i w6 b6 eb6 hV6 hE6 hz6 hl6
  have hne : b3 ≠ ba := by omega
  have hl3 : w.heap.size ≤ b3 := by omega
  have hV3s : Vr ws.heap b3 42 zs := (by repeat (first | assumption | (apply Vr.ext; assumption) | (apply Vr.updX; assumption; rotate_left; omega)))
  have hV6s : Vr ws.heap b6 24 (Value.agg #[.int .i64 0, .int .i64 0, .slice none 0 0]).cells.toList := (by repeat (first | assumption | (apply Vr.ext; assumption) | (apply Vr.updX; assumption; rotate_left; omega)))
  have hEs : Ext w ws := (by repeat (first | exact Ext.refl _ | (refine Ext.trans ?_ (by assumption)) | (apply ext_upd; assumption; rotate_left; omega)))
  have hne6 : b6 ≠ ba := by omega
  have hne63 : b6 ≠ b3 := by omega
  clear hV3 hVa hzs hEa
  have hgone : True := trivial
  refine T.loop (α := Nat × List IV × List Value) (fun x => [(1, .int .i64 (c : Int)), (2, .func (.func g) #[] cap.toArray), (6, .pointer (some ⟨b6, 0, none⟩)), (7, .pointer (some ⟨ba, 0, none⟩)), (17, .int .i64 (r : Int)), (18, .int .i64 (x.1 : Int))])
    (fun x w' => x.1 ≤ r ∧ x.2.1.length = x.1 * c ∧ x.2.2.length = (r * c - x.1 * c) * 2 ∧ x.2.2.all noU64 = true ∧ Ext w w' ∧ Vr w'.heap b3 42 (x.2.1.flatMap ivc ++ x.2.2) ∧ Vr w'.heap ba 24 [.int .i64 (r : Int), .int .i64 (c : Int), .slice (some ⟨b3, 0, none⟩) (x.1 * c) (r * c)] ∧
      (∃ cs6, Vr w'.heap b6 24 cs6 ∧ cs6.length = 3 ∧ cs6.all noU64 = true) ∧ ∀ q, q < x.2.1.length → LI w'.heap (F (q / c) (q % c)) (x.2.1.getD q default) ∧ (x.2.1.getD q default).m.n ≤ K)
    (fun x => r - x.1) (0, [], zs) (by repeat (first | exact Sub.nil _ | refine Sub.cons rfl ?_ | refine Sub.cons' rfl (int_congr (by omega)) ?_)) ⟨Nat.zero_le _, by simp, by simp; omega, hzn, hEs, by simpa using hV3s, by simpa using hVs, ⟨_, hV6s, rfl, rfl⟩, fun q hq => by simp at hq⟩ ?_
  rintro ⟨i, l, zz⟩ w2 ⟨hi, hl, hzzl, hzz, hE2, hV32, hV72, ⟨cs6, hV62, hl6', hn6⟩, hg2⟩
  dsimp only at hi hl hzzl hzz hE2 hV32 hV72 hV62 hg2 ⊢
  rcases Nat.lt_or_ge i r with hin | hin
  · repeat' (first | refine TL.ev (ev_simple rfl) rfl ?_ | (refine TL.cmpG rfl rfl rfl rfl (fun hc => ?_) (fun hc => ?_) <;> try (exfalso; omega)) | refine T.seq ?_ | refine T.region ?_ | refine TL.nil ?_ | refine T.block ?_ | refine T.cond_t rfl ?_ | refine T.skip ?_ | refine G.next ?_)
    refine T.loop (α := Nat × List IV × List Value) (fun x => [(1, .int .i64 (c : Int)), (2, .func (.func g) #[] cap.toArray), (6, .pointer (some ⟨b6, 0, none⟩)), (7, .pointer (some ⟨ba, 0, none⟩)), (8, .int .i64 (i : Int)), (17, .int .i64 (r : Int)), (18, .int .i64 (i : Int)), (21, .int .i64 (c : Int)), (22, .int .i64 (x.1 : Int))])
      (fun x w' => x.1 ≤ c ∧ x.2.1.length = i * c + x.1 ∧ x.2.2.length = (r * c - (i * c + x.1)) * 2 ∧ x.2.2.all noU64 = true ∧ Ext w w' ∧ Vr w'.heap b3 42 (x.2.1.flatMap ivc ++ x.2.2) ∧ Vr w'.heap ba 24 [.int .i64 (r : Int), .int .i64 (c : Int), .slice (some ⟨b3, 0, none⟩) (i * c + x.1) (r * c)] ∧
        (∃ cs6, Vr w'.heap b6 24 cs6 ∧ cs6.length = 3 ∧ cs6.all noU64 = true) ∧ ∀ q, q < x.2.1.length → LI w'.heap (F (q / c) (q % c)) (x.2.1.getD q default) ∧ (x.2.1.getD q default).m.n ≤ K)
      (fun x => c - x.1) (0, l, zz) (by repeat (first | exact Sub.nil _ | refine Sub.cons rfl ?_ | refine Sub.cons' rfl (int_congr (by omega)) ?_)) ⟨Nat.zero_le _, hl, hzzl, hzz, hE2, hV32, hV72, ⟨cs6, hV62, hl6', hn6⟩, hg2⟩ ?_
    clear hV32 hV72 hV62 hg2 hE2 hl hzzl hzz
    rintro ⟨j, l, zz⟩ w2 ⟨hj, hl, hzzl, hzz, hE2, hV32, hV72, ⟨cs6, hV62, hl6', hn6⟩, hg2⟩
    dsimp only at hj hl hzzl hzz hE2 hV32 hV72 hV62 hg2 ⊢
    rcases Nat.lt_or_ge j c with hjn | hjn
    · have hpl := place_lt hin hjn
      have hc0 : 0 < c := by omega
      repeat' (first | refine TL.ev (ev_simple rfl) rfl ?_ | (refine TL.cmpG rfl rfl rfl rfl (fun hc => ?_) (fun hc => ?_) <;> try (exfalso; omega)) | refine TL.ev (ev_arN rfl rfl rfl (by omega)) rfl ?_ | refine TF.nil ?_ | refine TF.e rfl ?_ | refine G.treeEnd rfl ?_ | refine TF.s rfl (fun _ hh => ev_simple rfl) rfl ?_ | refine TF.s rfl (fun _ hh => ev_fieldAddr rfl) rfl ?_ | refine T.regionXb b3 8 9 (.s 0 (.s 1 (.s 2 (.s 3 (.s 4 (.e 5 (.e 6 (.e 7 (.s 8 (.e 9 .nil)))))))))) mixed (by kernel_rfl) (fun wr hzr hEr => ?_) | (refine G.tree rfl (by repeat (first | exact Exb.refl _ _ | (refine Exb.ext ?_ (by assumption)) | (refine Exb.upd ?_ (by assumption)))) ?_) | (refine TF.s rfl (fun _ hh => ev_loadVX rfl ⟨Vr.exb hh hV72 (Ne.symm hne), rfl⟩) rfl ?_) | (refine TL.callV (vs := [.int .i64 (i : Int), .int .i64 (j : Int)]) (cap := cap) hg rfl rfl rfl ?_; refine (hF i j _ hin hjn (by repeat (first | exact Ext.refl _ | (refine Ext.trans ?_ (by assumption)) | (apply ext_upd; assumption; rotate_left; omega)))).mono ?_; rintro _ wf ⟨x, rfl, hLx, hEf, hKx⟩; refine Back.mk ?_; have hzf := hEf.size) | (refine TL.buildX1 (f := ivc) (u := x) rfl rfl rfl rfl rfl rfl rfl (fun wn bn ebn hVn hSn hEn hzn' => ?_)) | (refine TL.appendX (f := ivc) (u := x) (l := l) (zs := zz) (fun _ => rfl) rfl rfl rfl hSn (by repeat (first | assumption | (apply Vr.ext; assumption) | (apply Vr.updX; assumption; rotate_left; omega))) (fun _ _ => rfl) hl (by omega) (by omega) (fun wp hVp hUp hzp => ?_)) | (refine TL.storeX rfl rfl rfl rfl (by refine ⟨?_, ?_⟩; (focus (repeat (first | assumption | (apply Vr.ext; assumption) | (apply Vr.updX; assumption; rotate_left; omega)))); rfl) (fun ws hVs hUs hzs => ?_)) | refine T.seq ?_ | refine T.region ?_ | refine TL.nil ?_ | refine T.block ?_ | refine T.cond_t rfl ?_ | refine T.skip ?_ | refine G.next ?_ | refine G.blockN ?_ | refine G.only ?_)
      have hEn' : ∀ z y, LI w2.heap z y → LI wn.heap z y := fun z y h => by repeat (first | assumption | (apply LI.ext; assumption))
      have hV3n : Vr wn.heap b3 42 (l.flatMap ivc ++ zz) := (by repeat (first | assumption | (apply Vr.ext; assumption) | (apply Vr.updX; assumption; rotate_left; omega)))
      have hV7p : Vr wp.heap ba 24 [.int .i64 (r : Int), .int .i64 (c : Int), .slice (some ⟨b3, 0, none⟩) (i * c + j) (r * c)] := (by repeat (first | assumption | (apply Vr.ext; assumption) | (apply Vr.updX; assumption; rotate_left; omega)))
      have keep : ∀ z y, LI wn.heap z y → LI ws.heap z y := fun z y h => LI.updV hUs hV7p rfl (LI.updV hUp hV3n (ivc_all _ _ hzz) h)
      have hV6e : Vr ws.heap b6 24 cs6 := (by repeat (first | assumption | (apply Vr.ext; assumption) | (apply Vr.updX; assumption; rotate_left; omega)))
      have hV3e := Vr.updX hUs hVp hne
      have hlq : (l ++ [x]).length = i * c + (j + 1) := by simp; omega
      have hqd : (i * c + j) / c = i := by rw [Nat.mul_comm, Nat.mul_add_div hc0, Nat.div_eq_of_lt hjn, Nat.add_zero]
      have hqm : (i * c + j) % c = j := by rw [Nat.mul_comm, Nat.mul_add_mod, Nat.mod_eq_of_lt hjn]
      refine G.again (j + 1, l ++ [x], zz.drop 2) (by repeat (first | exact Sub.nil _ | refine Sub.cons rfl ?_ | refine Sub.cons' rfl (int_congr (by omega)) ?_)) ⟨by dsimp only; omega, hlq, by simp; omega, ?_, (by repeat (first | exact Ext.refl _ | (refine Ext.trans ?_ (by assumption)) | (apply ext_upd; assumption; rotate_left; omega))), hV3e, hVs, ⟨cs6, hV6e, hl6', hn6⟩, fun q hq => ?_⟩ (by dsimp only; omega)
      · rw [List.all_eq_true] at hzz ⊢
        exact fun v hv => hzz v (List.mem_of_mem_drop hv)
      · dsimp only at hq ⊢
        rw [getD_snoc hq]
        split
        · rename_i h1
          exact ⟨keep _ _ (hEn' _ _ (hg2 q h1).1), (hg2 q h1).2⟩
        · rename_i h1
          obtain rfl : q = i * c + j := by rw [hlq] at hq; omega
          rw [hqd, hqm]
          exact ⟨keep _ _ (hLx.ext hEn), hKx⟩
    · obtain rfl : j = c := by omega
      repeat' (first | refine TL.ev (ev_simple rfl) rfl ?_ | (refine TL.cmpG rfl rfl rfl rfl (fun hc => ?_) (fun hc => ?_) <;> try (exfalso; omega)) | refine TL.ev (ev_arN rfl rfl rfl (by omega)) rfl ?_ | refine T.seq ?_ | refine T.region ?_ | refine TL.nil ?_ | refine T.cond_f rfl ?_ | refine T.exit ?_ | refine G.next ?_ | refine G.blockN ?_ | refine G.blockE ?_ | refine G.thenE ?_)
      refine G.again (i + 1, l, zz) (by repeat (first | exact Sub.nil _ | refine Sub.cons rfl ?_ | refine Sub.cons' rfl (int_congr (by omega)) ?_)) ⟨by dsimp only; omega, by dsimp only; rw [hl, Nat.add_mul, Nat.one_mul], by dsimp only; rw [hzzl, Nat.add_mul, Nat.one_mul], hzz, hE2, hV32, by dsimp only; rw [Nat.add_mul, Nat.one_mul]; exact hV72, ⟨cs6, hV62, hl6', hn6⟩, hg2⟩ (by dsimp only; omega)
  · obtain rfl : i = r := by omega
    have hzz0 : zz = [] := List.eq_nil_of_length_eq_zero (by rw [hzzl, Nat.sub_self, Nat.zero_mul])
    subst hzz0
    match cs6, hl6', hV62, hn6 with
    | [y0, y1, y2], _, hV62, hn6 =>
      repeat' (first | (refine TL.cmpG rfl rfl rfl rfl (fun hc => ?_) (fun hc => ?_) <;> try (exfalso; omega)) | (refine TL.ev (ev_loadVAX rfl (by refine ⟨?_, ?_⟩; (focus (repeat (first | assumption | (apply Vr.ext; assumption) | (apply Vr.updX; assumption; rotate_left; omega)))); rfl)) rfl ?_) | (refine TL.storeVX rfl rfl rfl rfl (by refine ⟨?_, ?_⟩; (focus (repeat (first | assumption | (apply Vr.ext; assumption) | (apply Vr.updX; assumption; rotate_left; omega)))); rfl) (fun ws hVs hUs hzs => ?_)) | refine T.seq ?_ | refine T.region ?_ | refine TL.nil ?_ | refine T.cond_f rfl ?_ | refine T.exit ?_ | refine T.ret ?_ | refine G.next ?_ | refine G.blockE ?_ | refine G.thenE ?_)
      have hV3e : Vr ws.heap b3 42 (l.flatMap ivc ++ []) := Vr.updX hUs hV32 (Ne.symm hne63)
      rw [List.append_nil] at hV3e
      refine G.retC1 rfl rfl (held_agg hVs rfl) ⟨b3, l, rfl, hV3e, hl, fun a b ha hb => ?_, (by repeat (first | exact Ext.refl _ | (refine Ext.trans ?_ (by assumption)) | (apply ext_upd; assumption; rotate_left; omega))), hl3⟩
      have hq := place_lt ha hb
      obtain ⟨g1, g2⟩ := hg2 (a * c + b) (by omega)
      rw [show (a * c + b) / c = a by rw [Nat.mul_comm, Nat.mul_add_div (by omega), Nat.div_eq_of_lt hb, Nat.add_zero], show (a * c + b) % c = b by rw [Nat.mul_comm, Nat.mul_add_mod, Nat.mod_eq_of_lt hb]] at g1
      exact ⟨LI.updV hUs hV62 hn6 g1, g2⟩
end Go.Proofs.Ytlpheckjogphmaa

namespace Go.Proofs.Ytlpheckjogphmaa
open Go Go.Eng Go.Proofs Go.NatM Go.RowKit
theorem diag0_ok (w : World) (p k : Nat) (A : Option Addr) (hp : Vr w.heap p 22 [.slice A 0 k]) (i j : Nat) (hi : i ≤ 64) (hj : j ≤ 64) :
    Cl Try.prog 103 ([Value.int .i64 (i : Int), Value.int .i64 (j : Int)] ++ [Value.pointer (some ⟨p, 0, none⟩)]).toArray w (RetZ w 0 0) := by
  refine enter Try.func103 rfl rfl rfl ?_
  have hF := Fr.refl w
  have hin : ¬ i < 0 := Nat.not_lt_zero _
  by_cases hij : i = j
  · repeat' (first | (refine TL.isOp ?_; first | (refine TL.isG ?_; first | refine TL.grun rfl rfl rfl ?_) | (refine TL.isBin ?_; refine TL.cmpG rfl rfl rfl rfl (fun hc => ?_) (fun hc => ?_) <;> (try (first | (exfalso; omega) | exact absurd rfl hc))) | (apply TL.ev; (case hd => rfl); (case h => (first | exact ev_simple rfl | (apply Ev.isLoad; first | exact ev_loadV rfl (hp.ext hF.ext) rfl) | exact ev_len rfl | exact ev_buildX rfl rfl))) | (refine TL.storeAFr hF rfl rfl rfl rfl (by refine ⟨?_, ?_⟩; (focus (repeat (first | apply SetV.head | apply SetV.tail))); rfl) rfl ?_; clear hF; intro ws hF) | (refine TL.allocFr hF (d := 5) rfl rfl ?_; clear hF; intro w5 b5 hF)) | (refine T.is ?_; first | refine T.seq ?_ | refine T.region ?_ | refine T.cond_f rfl ?_ | refine T.ret ?_ | refine T.skip ?_) | (refine G.is ?_; first | refine G.next ?_) | refine TL.nil ?_)
    all_goals exact G.retC1 rfl rfl (held_agg (hF.var (by repeat (first | exact InV.head | apply InV.tail))) rfl) ⟨⟨false, ⟨none, 0, 0, []⟩⟩, rfl, LI.zero _, hF.ext, Nat.zero_le _⟩
  · repeat' (first | (refine TL.isOp ?_; first | (refine TL.isG ?_; first | refine TL.gskip rfl rfl rfl rfl ?_) | (refine TL.isBin ?_; refine TL.cmpG rfl rfl rfl rfl (fun hc => ?_) (fun hc => ?_) <;> (try (first | (exfalso; omega) | exact absurd rfl hc))) | (apply TL.ev; (case hd => rfl); (case h => (first | exact ev_simple rfl | exact ev_buildX rfl rfl))) | (refine TL.storeAFr hF rfl rfl rfl rfl (by refine ⟨?_, ?_⟩; (focus (repeat (first | apply SetV.head | apply SetV.tail))); rfl) rfl ?_; clear hF; intro ws hF) | (refine TL.allocFr hF (d := 5) rfl rfl ?_; clear hF; intro w5 b5 hF)) | (refine T.is ?_; first | refine T.seq ?_ | refine T.region ?_ | refine T.cond_f rfl ?_ | refine T.ret ?_ | refine T.skip ?_) | (refine G.is ?_; first | refine G.next ?_) | refine TL.nil ?_)
    all_goals exact G.retC1 rfl rfl (held_agg (hF.var (by repeat (first | exact InV.head | apply InV.tail))) rfl) ⟨⟨false, ⟨none, 0, 0, []⟩⟩, rfl, LI.zero _, hF.ext, Nat.zero_le _⟩
/-- a new matrix of zeros and an error's number 0 -/
def RetZV (w : World) (r c : Nat) (e : Ending) (w' : World) : Prop := ∃ (b : Nat) (l : List IV), e = .returned (.tuple #[.agg #[.int .i64 (r : Int), .int .i64 (c : Int), .slice (some ⟨b, 0, none⟩) (r * c) (r * c)], .int .i64 0]) ∧ Vr w'.heap b 42 (l.flatMap ivc) ∧ l.length = r * c ∧ LsK (r * c) l (fun _ => 0) 0 w'.heap ∧ Ext w w' ∧ w.heap.size ≤ b
theorem lk_of {H : Array Obj} {r c : Nat} {l : List IV} (h : ∀ i j, i < r → j < c → LI H 0 (l.getD (i * c + j) default) ∧ (l.getD (i * c + j) default).m.n ≤ 0) : LsK (r * c) l (fun _ => 0) 0 H := fun q hq => by
  have hc : 0 < c := Nat.pos_of_ne_zero fun e => by rw [e, Nat.mul_zero] at hq; omega
  have h1 : q / c < r := (Nat.div_lt_iff_lt_mul hc).2 hq
  have := h (q / c) (q % c) h1 (Nat.mod_lt _ hc)
  rwa [Nat.mul_comm, Nat.div_add_mod] at this
set_option maxRecDepth 100000 in
set_option maxHeartbeats 2000000 in
theorem mdiag0V (w : World) (r c : Nat) (hr : r ≤ 64) (hcc : c ≤ 64) : Cl Try.prog 88 #[.int .i64 (r : Int), .int .i64 (c : Int), .slice none 0 0] w (RetZV w r c) := by
  have hs1 := fun (w : World) => (side_ok w.heap (r : Int) true (decide_eq_true (by omega))).cl
  have hs2 := fun (w : World) => (side_ok w.heap (c : Int) true (decide_eq_true (by omega))).cl
  refine enter Try.func88 rfl rfl rfl ?_
  have hF := Fr.refl w
  repeat' (first | (refine TL.isOp ?_; first | (refine TL.isG ?_; first | refine TL.grun rfl rfl rfl ?_) | (refine TL.isCall ?_; refine TL.call rfl rfl ?_; first | (refine (hs1 _).mono ?_; rintro _ wc ⟨rfl, hE⟩; replace hF := hF.exts hE.ext; clear hE; refine Back.mk ?_) | (refine (hs2 _).mono ?_; rintro _ wc ⟨rfl, hE⟩; replace hF := hF.exts hE.ext; clear hE; refine Back.mk ?_) | (refine (build_okV _ r c hr hcc 103 [.pointer (some ⟨b5, 0, none⟩)] inferInstance (fun _ _ => 0) 0 (fun i j w1 hi hj hE1 => diag0_ok w1 b5 0 none ((hF.var (by repeat (first | exact InV.head | apply InV.tail))).ext hE1) i j (by omega) (by omega))).mono ?_; rintro _ wz ⟨bz, lz, rfl, hVz, hlz, hgz, hE, hbz⟩; have hbz2 := Nat.le_trans hF.exs.size hbz; replace hF := Fr.addLK (hF.newGe hbz hVz hE) (lk_of hgz); clear hE hgz hVz; refine Back.mk ?_)) | (refine TL.isBin ?_; refine TL.cmpG rfl rfl rfl rfl (fun hc => ?_) (fun hc => ?_) <;> (try (first | (exfalso; omega) | exact absurd rfl hc))) | (apply TL.ev; (case hd => rfl); (case h => (first | exact ev_simple rfl | (apply Ev.isLoad; first | exact ev_loadFr hF rfl (by refine ⟨?_, ?_⟩; (focus (repeat (first | exact InV.head | apply InV.tail))); rfl)) | exact ev_len rfl | exact ev_makeFunc rfl | exact ev_min2 rfl rfl))) | (refine TL.storeAFr hF rfl rfl rfl rfl (by refine ⟨?_, ?_⟩; (focus (repeat (first | apply SetV.head | apply SetV.tail))); rfl) rfl ?_; clear hF; intro ws hF) | (refine TL.boxFr hF (d := 5) (v := .slice none 0 0) rfl rfl ?_; clear hF; intro w5 b5 hF) | (refine TL.allocFr hF (d := 6) rfl rfl ?_; clear hF; intro w6 b6 hF)) | (refine T.is ?_; first | refine T.seq ?_ | refine T.region ?_ | refine T.cond_f rfl ?_ | refine T.ret ?_ | refine T.skip ?_) | (refine G.is ?_; first | refine G.next ?_) | refine TL.nil ?_)
  exact G.retC2 rfl rfl rfl (held_agg (hF.var (b := b6) (by repeat (first | exact InV.head | apply InV.tail))) rfl) ⟨bz, lz, rfl, hF.var (b := bz) (by repeat (first | exact InV.head | apply InV.tail)), hlz, Fr.lk hF (i := r * c) (l := lz) (by repeat (first | exact memH | apply memT)), hF.ext, hbz2⟩
theorem mzeroV (w : World) (r c : Nat) (hr : r ≤ 64) (hcc : c ≤ 64) : Cl Try.prog 70 #[.int .i64 (r : Int), .int .i64 (c : Int)] w (RetZV w r c) := by
  have hd := fun w => mdiag0V w r c hr hcc
  refine enter Try.func70 rfl rfl rfl ?_
  have hF := Fr.refl w
  repeat' (first | (refine TL.isOp ?_; first | (refine TL.isCall ?_; refine TL.call rfl rfl ?_; first | (refine (hd _).mono ?_; rintro _ wz ⟨bz, lz, rfl, hVz, hlz, hgz, hE, hbz⟩; have hbz2 := Nat.le_trans hF.exs.size hbz; replace hF := Fr.addLK (hF.newGe hbz hVz hE) hgz; clear hE hgz hVz; refine Back.mk ?_)) | (apply TL.ev; (case hd => rfl); (case h => (first | exact ev_simple rfl))) | (refine TL.storeAFr hF rfl rfl rfl rfl (by refine ⟨?_, ?_⟩; (focus (repeat (first | apply SetV.head | apply SetV.tail))); rfl) rfl ?_; clear hF; intro ws hF) | (refine TL.allocFr hF (d := 4) rfl rfl ?_; clear hF; intro w4 b4 hF)) | (refine T.is ?_; first | refine T.seq ?_ | refine T.region ?_ | refine T.ret ?_) | (refine G.is ?_; first | refine G.next ?_) | refine TL.nil ?_)
  exact G.retC2 rfl rfl rfl (held_agg (hF.var (b := b4) (by repeat (first | exact InV.head | apply InV.tail))) rfl) ⟨bz, lz, rfl, hF.var (b := bz) (by repeat (first | exact InV.head | apply InV.tail)), hlz, Fr.lk hF (i := r * c) (l := lz) (by repeat (first | exact memH | apply memT)), hF.ext, hbz2⟩
end Go.Proofs.Ytlpheckjogphmaa

set_option linter.unusedSectionVars false
namespace Go.Eng
open Go Go.Proofs Go.NatM Go.RowKit Go.Proofs.Ytlpheckjogphmaa
theorem lk_put {H : Array Obj} {n K idx : Nat} {l : List IV} {Z : Nat → Int} {x : IV} {z : Int} (h : LsK n l Z K H) (hl : l.length = n) (hi : idx < n) (hx : LI H z x) (hn : x.m.n ≤ K) : LsK n (l.set idx x) (fun q => if q = idx then z else Z q) K H := fun q hq => by
  by_cases e : q = idx
  · subst e
    have : (l.set q x).getD q default = x := by simp [List.getD, show q < l.length by omega]
    rw [this]
    dsimp only
    rw [if_pos rfl]
    exact ⟨hx, hn⟩
  · have : (l.set idx x).getD q default = l.getD q default := by simp only [List.getD]; rw [List.getElem?_set_ne (fun h => e h.symm)]
    rw [this]
    dsimp only
    rw [if_neg e]
    exact h q hq
/-- nothing stands outside r rows and c columns -/
def InRC (r c : Nat) (Z : ZF) : Prop := ∀ k, Z k ≠ 0 → (0 ≤ k.1 ∧ k.1 < (r : Int)) ∧ (0 ≤ k.2 ∧ k.2 < (c : Int))
/-- a matrix' place, from its number -/
def plq (c q : Nat) : Int × Int := (((q / c : Nat) : Int), ((q % c : Nat) : Int))
theorem plq_iff {c a b q : Nat} (hb : b < c) : (((a : Nat) : Int), ((b : Nat) : Int)) = plq c q ↔ q = a * c + b := by
  unfold plq
  constructor
  · intro h
    have h1 := (Prod.mk.inj h).1
    have h2 := (Prod.mk.inj h).2
    have h3 := Nat.div_add_mod q c
    have h4 : a = q / c := by omega
    have h5 : b = q % c := by omega
    rw [h4, h5, Nat.mul_comm]; omega
  · rintro rfl
    have h1 : (a * c + b) / c = a := by rw [Nat.mul_comm, Nat.mul_add_div (by omega), Nat.div_eq_of_lt hb, Nat.add_zero]
    have h2 : (a * c + b) % c = b := by rw [Nat.mul_comm, Nat.mul_add_mod, Nat.mod_eq_of_lt hb]
    rw [h1, h2]
theorem den_step {ls : GL} {N i c a b : Nat} {Z : ZF} {y : IV} (h : PlF ls Z N) (hp : ls[i]? = some (((a : Int), (b : Int)), y)) (hb : b < c) : (fun q => if q = a * c + b then ival y else zv (ls.take i) (plq c q)) = fun q => zv (ls.take (i + 1)) (plq c q) := funext fun q => by
  have ht : ls.take (i + 1) = ls.take i ++ [(((a : Int), (b : Int)), y)] := by rw [List.take_add_one, hp]; rfl
  have hno : ((a : Int), (b : Int)) ∉ (ls.take i).map (·.1) := fun hm => by
    have hn := h.nd
    have e : ls = ls.take i ++ [(((a : Int), (b : Int)), y)] ++ ls.drop (i + 1) := by rw [← ht, List.take_append_drop]
    rw [e, List.map_append, List.map_append] at hn
    have h1 := (List.nodup_append.1 hn).1
    have h2 := (List.nodup_append.1 h1).2.2
    exact h2 _ hm _ (by simp) rfl
  rw [ht, zv_snoc hno]
  dsimp only
  by_cases hq : q = a * c + b
  · rw [if_pos hq, if_pos ((plq_iff hb).2 hq)]
  · rw [if_neg hq, if_neg fun e => hq ((plq_iff hb).1 e)]
end Go.Eng
namespace Go.Proofs.Ytlpheckjogphmaa
open Go Go.Eng Go.Proofs Go.NatM Go.RowKit
/-- a grid's matrix -/
def RetDn (w : World) (r c : Nat) (Z : ZF) (e : Ending) (w' : World) : Prop := ∃ x : MV, e = .returned (.tuple #[.agg (mvc x).toArray, .int .i64 0]) ∧ LM w'.heap x r c (fun i j => Z ((i : Int), (j : Int))) 16384 ∧ Ext w w' ∧ MF w x
set_option maxRecDepth 100000 in
set_option maxHeartbeats 8000000 in
theorem denseS (w : World) (g m r c N : Nat) (Z : ZF) (hG : GZ w.heap g m r c Z N) (hi : InRC r c Z) (hr : r ≤ 64) (hcc : c ≤ 64) (hN : N ≤ 4096) :
    Cl Try.prog 34 #[.pointer (some ⟨g, 0, none⟩)] w (RetDn w r c Z) := by
  have hpl := fun w1 (hE : Ext w w1) => placesS w1 g m r c N Z (hG.ext hE) hN
  obtain ⟨l, hGr, hz, hlN, hv⟩ := hG
  have hF := Gr.fr hGr fun _ => False
  clear hGr
  have hrc := mul64 hr hcc
  refine enter Try.func34 rfl rfl rfl ?_
  repeat' (first | (refine TL.isOp ?_; first | (refine TL.isG ?_; first | refine TL.grun rfl rfl rfl ?_) | (refine TL.isBin ?_; refine TL.cmpG rfl rfl rfl rfl (fun hc => ?_) (fun hc => ?_) <;> (try (first | (exfalso; omega) | exact absurd rfl hc))) | (apply TL.ev; (case hd => rfl); (case h => (first | exact ev_simple rfl | (apply Ev.isBin; first | exact ev_eqlP rfl rfl rfl) | (apply Ev.isLoad; first | exact ev_loadCb hF rfl (by repeat (first | exact memH | apply memT)) rfl) | exact ev_fieldAddr rfl | exact ev_nilCheck rfl))) | (refine TL.allocFr hF (d := 2) rfl rfl ?_; clear hF; intro w2 b2 hF)) | (refine T.is ?_; first | refine T.seqM 5 rfl ?_ | refine T.region ?_ | refine T.cond_f rfl ?_ | refine T.skip ?_) | (refine G.is ?_; first | refine G.next ?_) | refine TL.nil ?_)
  refine T.cut (α := Nat × List IV × Nat) (fun x => [(0, .pointer (some ⟨g, 0, none⟩)), (2, .pointer (some ⟨b2, 0, none⟩)), (4, .pointer (some ⟨x.2.2, 0, none⟩)), (5, .int .i64 0)])
    (fun x w' => x.2.1.length = r * c ∧ w.heap.size ≤ x.1 ∧ Fr w w' [⟨x.2.2, 24, [.int .i64 (r : Int), .int .i64 (c : Int), .slice (some ⟨x.1, 0, none⟩) (r * c) (r * c)]⟩, ⟨x.1, 42, x.2.1.flatMap ivc⟩, ⟨b2, 24, [.int .i64 0, .int .i64 0, .slice none 0 0]⟩] [dpLK (r * c) x.2.1 (fun _ => 0) 0, dpCb g 96 (grc r c m)]) ?_ ?_
  · repeat' (first | (refine TL.isOp ?_; first | (refine TL.isCall ?_; refine TL.call rfl rfl ?_; first | (refine (mzeroV _ r c hr hcc).mono ?_; rintro _ wz ⟨bz, lz, rfl, hVz, hlz, hgz, hE, hbz⟩; have hbz2 := Nat.le_trans hF.exs.size hbz; replace hF := Fr.addLK (hF.newGe hbz hVz hE) hgz; clear hE hgz hVz; refine Back.mk ?_)) | (refine TL.storeAFr hF rfl rfl rfl rfl (by refine ⟨?_, ?_⟩; (focus (repeat (first | apply SetV.head | apply SetV.tail))); rfl) rfl ?_; clear hF; intro ws hF) | (refine TL.allocFr hF (d := 4) rfl rfl ?_; clear hF; intro w4 b4 hF)) | (refine TF.is ?_; first | refine TF.nil ?_ | refine TF.e rfl ?_ | refine TF.alt ?_ ?_ | (refine TF.pick rfl ?_; first | (apply TFo.ev; (case hd => rfl); (case h => (intro wh hF; first | exact ev_simple rfl | (apply Ev.isLoad; first | exact ev_loadCb hF rfl (by repeat (first | exact memH | apply memT)) rfl) | exact ev_fieldAddr rfl | exact ev_nilCheck rfl))))) | (refine T.is ?_; first | (refine T.regionFr hF 5 15 (.s 0 (.s 1 (.s 2 (.s 3 (.s 4 (.s 5 (.s 6 (.s 7 (.alt (.e 8 (.s 9 (.s 10 (.s 11 (.e 12 (.e 13 (.s 14 .nil))))))) (.e 12 (.e 8 (.s 9 (.s 10 (.s 11 (.e 13 (.s 14 .nil)))))))))))))))) mixed (by kernel_rfl) ?_; clear hF; intro wr hF)) | (refine G.is ?_; first | refine G.only ?_ | refine G.tree rfl (by first | exact hF | exact hF.weak (List.sublist_append_right _ _) (by repeat (first | exact allR | apply allT)) | exact hF.weak (by repeat (first | exact List.Sublist.refl _ | apply List.Sublist.cons)) (by repeat (first | exact allR | apply allT)) | exact hF.weak (by repeat (first | exact List.Sublist.refl _ | apply List.Sublist.cons)) (by repeat (first | exact allN | refine allH (by repeat (first | exact memH | apply memT)) ?_))) ?_) | refine TL.nil ?_)
    all_goals exact G.cut (bz, lz, b4) (by repeat (first | exact Sub.nil _ | refine Sub.cons rfl ?_ | refine Sub.cons' rfl (int_congr (by omega)) ?_)) ⟨hlz, hbz2, by first | exact hF.weak (List.Sublist.refl _) (allH (by repeat (first | exact memH | apply memT)) (allH (by repeat (first | exact memH | apply memT)) allN)) | exact hF.swap.weak (List.Sublist.refl _) (allH (by repeat (first | exact memH | apply memT)) (allH (by repeat (first | exact memH | apply memT)) allN))⟩
  clear hF
  rintro ⟨bz, lz, b4⟩ w1 ⟨hlz, hbz2, hF⟩
  dsimp only at hlz hbz2 hF ⊢
  repeat' (first | (refine TL.isOp ?_; first | (refine TL.isCall ?_; refine TL.call rfl rfl ?_; first | (refine (hpl _ hF.ext).mono ?_; rintro _ wy ⟨l1, b1, c1, rfl, hE, hb1, hs1, hv1, hp1⟩; replace hF := hF.addPl hE hb1 hs1 hv1; clear hE hs1 hv1 hb1; refine Back.mk ?_)) | (apply TL.ev; (case hd => rfl); (case h => (first | exact ev_simple rfl | exact ev_len rfl)))) | (refine T.is ?_; first | refine T.seq ?_ | refine T.region ?_ | refine T.block ?_) | (refine G.is ?_; first | refine G.next ?_) | refine TL.nil ?_)
  have hK0 : LsK (r * c) lz (fun q => zv (l1.take 0) (plq c q)) 16384 _ := fun q hq => ⟨((Fr.lk hF (i := r * c) (l := lz) (by repeat (first | exact memH | apply memT))) q hq).1, Nat.le_trans ((Fr.lk hF (i := r * c) (l := lz) (by repeat (first | exact memH | apply memT))) q hq).2 (Nat.zero_le _)⟩
  replace hF := (Fr.addLK hF hK0).swap
  clear hK0
  refine T.loop (α := Nat × List IV) (fun x => [(0, .pointer (some ⟨g, 0, none⟩)), (2, .pointer (some ⟨b2, 0, none⟩)), (4, .pointer (some ⟨b4, 0, none⟩)), (5, .int .i64 0), (37, .slice (some ⟨b1, 0, none⟩) N c1), (38, .int .i64 (N : Int)), (39, .int .i64 (x.1 : Int))])
    (fun x w' => x.1 ≤ N ∧ x.2.length = r * c ∧ Fr w w' [⟨bz, 42, x.2.flatMap ivc⟩, ⟨b4, 24, [.int .i64 (r : Int), .int .i64 (c : Int), .slice (some ⟨bz, 0, none⟩) (r * c) (r * c)]⟩, ⟨b2, 24, [.int .i64 0, .int .i64 0, .slice none 0 0]⟩] [dpLK (r * c) x.2 (fun q => zv (l1.take x.1) (plq c q)) 16384, dpGv l1, dpSmG 4 plc (some ⟨b1, 0, none⟩) N c1 l1, dpCb g 96 (grc r c m)]) (fun x => N - x.1) (0, lz) (by repeat (first | exact Sub.nil _ | refine Sub.cons rfl ?_ | refine Sub.cons' rfl (int_congr (by omega)) ?_)) ⟨Nat.zero_le _, hlz, hF.weak (List.Sublist.refl _) (allH (by repeat (first | exact memH | apply memT)) (allH (by repeat (first | exact memH | apply memT)) (allH (by repeat (first | exact memH | apply memT)) (allH (by repeat (first | exact memH | apply memT)) allN))))⟩ ?_
  clear hF hlz lz
  rintro ⟨i, lz⟩ w3 ⟨hiN, hlz, hF⟩
  dsimp only at hiN hlz hF ⊢
  rcases Nat.lt_or_ge i N with hin | hin
  · obtain ⟨p, hp⟩ : ∃ p, l1[i]? = some p := ⟨_, List.getElem?_eq_getElem (by rw [hp1.len]; exact hin)⟩
    have hgp := Fr.gv (l := l1) hF (by repeat (first | exact memH | apply memT)) p (List.mem_of_getElem? hp)
    have hZp : Z p.1 ≠ 0 := by
      rw [← hp1.val, zv_mem hp1.nd (List.mem_of_getElem? hp)]
      exact hp1.nz p (List.mem_of_getElem? hp)
    have hrg := hi p.1 hZp
    obtain ⟨⟨p1, p2⟩, ⟨ys, ⟨yA, yn, yc, yl⟩⟩⟩ := p
    dsimp only at hrg hgp
    obtain ⟨a, rfl⟩ : ∃ a : Nat, p1 = (a : Int) := ⟨p1.toNat, by omega⟩
    obtain ⟨b, rfl⟩ : ∃ b : Nat, p2 = (b : Int) := ⟨p2.toNat, by omega⟩
    have har : a < r := by omega
    have hbc : b < c := by omega
    have hidx := place_lt har hbc
    have hac : a * c ≤ 4096 := by omega
    have hil : a * c + b < lz.length := by omega
    replace hF := Fr.addLI hF hgp.1
    have hgn := hgp.2
    clear hgp hZp hrg
    repeat' (first | (refine TL.isOp ?_; first | (refine TL.isBin ?_; refine TL.cmpG rfl rfl rfl rfl (fun hc => ?_) (fun hc => ?_) <;> (try (first | (exfalso; omega) | exact absurd rfl hc))) | (apply TL.ev; (case hd => rfl); (case h => (first | exact ev_simple rfl | (apply Ev.isBin; first | exact ev_arN rfl rfl rfl (by omega)) | (apply Ev.isLoad; first | exact ev_loadMc [.int .i64 (a : Int), .int .i64 (b : Int), .bool ys, .slice yA yn yc] rfl (Fr.smG hF (l := l1) (by repeat (first | exact memH | apply memT))) hp rfl) | exact ev_indexM rfl rfl hin (Fr.smG hF (l := l1) (by repeat (first | exact memH | apply memT))).some))) | (refine TL.storeAFr hF rfl rfl rfl rfl (by refine ⟨?_, ?_⟩; (focus (repeat (first | apply SetV.head | apply SetV.tail))); rfl) rfl ?_; clear hF; intro ws hF) | (refine TL.allocFr hF (d := 7) rfl rfl ?_; clear hF; intro w7 b7 hF) | (refine TL.storeAtFr hF (f := ivc) ⟨ys, ⟨yA, yn, yc, yl⟩⟩ rfl rfl rfl rfl (fun _ => rfl) hil (ivc_noV lz) (by repeat (first | apply SetV.head | apply SetV.tail)) ?_; clear hF; intro ws hF)) | (refine TF.is ?_; first | refine TF.nil ?_ | refine TF.e rfl ?_ | (refine TF.pick rfl ?_; first | (apply TFo.ev; (case hd => rfl); (case h => (intro wh hF; first | exact ev_simple rfl | (apply Ev.isBin; first | exact ev_arN rfl rfl rfl (by omega)) | (apply Ev.isLoad; first | exact ev_loadFr hF rfl (by refine ⟨?_, ?_⟩; (focus (repeat (first | exact InV.head | apply InV.tail))); rfl) | exact ev_loadAFr hF rfl (by refine ⟨?_, ?_⟩; (focus (repeat (first | exact InV.head | apply InV.tail))); rfl) | exact ev_loadCb hF rfl (by repeat (first | exact memH | apply memT)) rfl) | exact ev_fieldAddr rfl | exact ev_nilCheck rfl | exact ev_indexM rfl rfl hidx (.inr rfl)))))) | (refine T.is ?_; first | refine T.seq ?_ | refine T.region ?_ | refine T.block ?_ | refine T.cond_t rfl ?_ | refine T.skip ?_ | (refine T.regionFt hF.swap 9 15 (.s 0 (.s 1 (.s 2 (.s 3 (.s 4 (.s 5 (.s 6 (.s 7 (.s 8 (.s 9 (.s 10 (.s 11 (.s 12 (.s 13 (.s 14 (.e 15 .nil)))))))))))))))) mixed (by kernel_rfl) ?_; clear hF; intro wr hF)) | (refine G.is ?_; first | refine G.next ?_ | refine G.blockN ?_ | refine G.only ?_ | refine G.treeEnd rfl ?_) | refine TL.nil ?_)
    all_goals
      have hk := lk_put (Fr.lk hF (i := r * c) (l := lz) (by repeat (first | exact memH | apply memT))) hlz hidx (Fr.li hF (x := ⟨ys, ⟨yA, yn, yc, yl⟩⟩) (by repeat (first | exact memH | apply memT))) hgn
      rw [den_step hp1 hp hbc] at hk
      exact G.again (i + 1, lz.set (a * c + b) ⟨ys, ⟨yA, yn, yc, yl⟩⟩) (by repeat (first | exact Sub.nil _ | refine Sub.cons rfl ?_ | refine Sub.cons' rfl (int_congr (by omega)) ?_)) ⟨hin, by dsimp only; rw [List.length_set]; exact hlz, (Fr.addLK hF hk).weak (List.Sublist.cons_cons _ (List.Sublist.cons _ (List.Sublist.refl _))) (allH (by repeat (first | exact memH | apply memT)) (allH (by repeat (first | exact memH | apply memT)) (allH (by repeat (first | exact memH | apply memT)) (allH (by repeat (first | exact memH | apply memT)) allN))))⟩ (by dsimp only; omega)
  · obtain rfl : i = N := by omega
    repeat' (first | (refine TL.isOp ?_; first | (refine TL.isBin ?_; refine TL.cmpG rfl rfl rfl rfl (fun hc => ?_) (fun hc => ?_) <;> (try (first | (exfalso; omega) | exact absurd rfl hc))) | (apply TL.ev; (case hd => rfl); (case h => (first | exact ev_simple rfl | (apply Ev.isLoad; first | exact ev_loadAFr hF rfl (by refine ⟨?_, ?_⟩; (focus (repeat (first | exact InV.head | apply InV.tail))); rfl))))) | (refine TL.storeAFr hF rfl rfl rfl rfl (by refine ⟨?_, ?_⟩; (focus (repeat (first | apply SetV.head | apply SetV.tail))); rfl) rfl ?_; clear hF; intro ws hF)) | (refine T.is ?_; first | refine T.seq ?_ | refine T.region ?_ | refine T.cond_f rfl ?_ | refine T.exit ?_ | refine T.ret ?_) | (refine G.is ?_; first | refine G.next ?_ | refine G.blockE ?_ | refine G.thenE ?_) | refine TL.nil ?_)
    have hVz := hF.var (b := bz) (by repeat (first | exact InV.head | apply InV.tail))
    have hlk := Fr.lk hF (i := r * c) (l := lz) (by repeat (first | exact memH | apply memT))
    have htk : l1.take i = l1 := List.take_of_length_le (by rw [hp1.len]; exact Nat.le_refl _)
    rw [htk] at hlk
    refine G.retC2 rfl rfl rfl (held_agg (hF.var (b := b2) (by repeat (first | exact InV.head | apply InV.tail))) rfl) ⟨⟨(r : Int), (c : Int), some ⟨bz, 0, none⟩, r * c, r * c, lz⟩, rfl, ⟨⟨rfl, rfl, hr, hcc, rfl⟩, vr_sm (zs := []) (by omega) (fun _ _ => rfl) (by rw [List.append_nil]; exact hVz) hlz (Nat.le_refl _) hVz.lt, fun u v hu hv2 => ?_⟩, hF.ext, .inr ⟨bz, rfl, hbz2⟩⟩
    have := hlk (u * c + v) (place_lt hu hv2)
    dsimp only at this
    rw [← (plq_iff (a := u) hv2).2 rfl, hp1.val] at this
    exact this
end Go.Proofs.Ytlpheckjogphmaa

set_option linter.unusedSectionVars false
namespace Go.Proofs.Ytlpheckjogphmaa
open Go Go.Eng Go.Proofs Go.NatM Go.RowKit
set_option maxHeartbeats 4000000 in
theorem ofBad (w : World) (x : MV) (hx : InR x) (hn : ¬ ∃ r c, Sound x r c) :
    Cl Try.prog 9 #[.agg (mvc x).toArray] w (RetLg w 1) := by
  have hck := fun w1 => chk_bad w1 x hx hn
  obtain ⟨xr, xc, A, n, k, l⟩ := x
  refine enterM Try.func9 rfl rfl rfl (fun _ h => by cases h.1) ?_
  have hF := Fr.refl w
  repeat' (first | (refine TL.isOp ?_; first | (refine TL.isCall ?_; refine TL.call rfl rfl ?_; first | (refine (hck _).mono ?_; rintro _ wy ⟨rfl, hE⟩; replace hF := hF.exts hE; clear hE; refine Back.mk ?_)) | (refine TL.isBin ?_; refine TL.cmpG rfl rfl rfl rfl (fun hc => ?_) (fun hc => ?_) <;> (try (first | (exfalso; omega) | exact absurd rfl hc))) | (apply TL.ev; (case hd => rfl); (case h => (first | exact ev_simple rfl | (apply Ev.isLoad; first | exact ev_loadAFr hF rfl (by refine ⟨?_, ?_⟩; (focus (repeat (first | exact InV.head | apply InV.tail))); rfl))))) | (refine TL.boxAFr hF (d := 1) (cs := [.int .i64 xr, .int .i64 xc, .slice A n k]) rfl rfl ?_; clear hF; intro w1 b1 hF)) | (refine G.is ?_; first | refine G.nextI ?_ | refine G.thenR ?_) | refine TL.nil ?_ | (refine TI.is ?_; first | refine TI.seq ?_ | refine TI.region rfl ?_ | refine TI.cond_t rfl ?_ | refine TI.ret ?_))
  all_goals exact G.retM2 rfl rfl rfl ⟨rfl, hF.ext⟩
set_option maxHeartbeats 4000000 in
theorem ofLarge (w : World) (x : MV) (r c : Nat) (gx : GM w.heap x r c 1048576) (hb : ∃ y ∈ x.l, big y) :
    Cl Try.prog 9 #[.agg (mvc x).toArray] w (RetLg w 5) := by
  have hck := fun w1 => chk_ok w1 x r c gx.sh
  have hcl := fun w1 (hE : Ext w w1) => containsLong w1 x.n x.k x.A x.l (gx.s.ext hE).size (by have := gx.sh.n; have h1 := Nat.mul_le_mul gx.sh.r64 gx.sh.c64; omega) (fun y hy => ⟨(gx.g y hy).1.ext hE, Nat.le_trans (gx.g y hy).2 (by omega)⟩) true ⟨fun _ => hb, fun _ => rfl⟩
  obtain ⟨xr, xc, A, n, k, l⟩ := x
  dsimp only at hcl
  refine enterM Try.func9 rfl rfl rfl (fun _ h => by cases h.1) ?_
  have hF := Fr.refl w
  repeat' (first | (refine TL.isOp ?_; first | (refine TL.isCall ?_; refine TL.call rfl rfl ?_; first | (refine (hck _).mono ?_; rintro _ wy ⟨rfl, hE⟩; replace hF := hF.exts hE; clear hE; refine Back.mk ?_) | (refine (hcl _ hF.ext).mono ?_; rintro _ wy ⟨rfl, hE⟩; replace hF := hF.exts hE; clear hE; refine Back.mk ?_)) | (refine TL.isBin ?_; refine TL.cmpG rfl rfl rfl rfl (fun hc => ?_) (fun hc => ?_) <;> (try (first | (exfalso; omega) | exact absurd rfl hc))) | (apply TL.ev; (case hd => rfl); (case h => (first | exact ev_simple rfl | (apply Ev.isLoad; first | exact ev_loadFr hF rfl (by refine ⟨?_, ?_⟩; (focus (repeat (first | exact InV.head | apply InV.tail))); rfl) | exact ev_loadAFr hF rfl (by refine ⟨?_, ?_⟩; (focus (repeat (first | exact InV.head | apply InV.tail))); rfl)) | exact ev_fieldAddr rfl))) | (refine TL.boxAFr hF (d := 1) (cs := [.int .i64 xr, .int .i64 xc, .slice A n k]) rfl rfl ?_; clear hF; intro w1 b1 hF)) | (refine G.is ?_; first | refine G.nextI ?_ | refine G.thenR ?_) | refine TL.nil ?_ | (refine TI.is ?_; first | refine TI.seq ?_ | refine TI.region rfl ?_ | refine TI.cond_t rfl ?_ | refine TI.cond_f rfl ?_ | refine TI.ret ?_ | refine TI.skip ?_))
  all_goals exact G.retM2 rfl rfl rfl ⟨rfl, hF.ext⟩
theorem iv_blB (w : World) (x : IV) (g : GI w.heap x) (hn : x.m.n ≤ 1099511627776) : Cl Try.prog 29 #[.slice x.m.A x.m.n x.m.c] w (fun e w' => e = .returned (.int .i64 ((bl (ival x).natAbs : Nat) : Int)) ∧ Ext w w') := by
  rw [ival_nat]
  exact (bitlen_ok w.heap _ x.m.A x.m.n x.m.c x.m.l g.s g.u (by omega)).cl.mono fun e w' h => ⟨h.1, h.2.ext⟩
/-- the law's long -/
theorem longL (w : World) (x : MV) (K : Nat) (hs : Sm 2 ivc w.heap w.heap.size x.A x.n x.k x.l) (hg : ∀ y ∈ x.l, GI w.heap y ∧ y.m.n ≤ K) (hK : K ≤ 1099511627776) (hn : x.n ≤ 1048576) (b : Bool) (hb : b = true ↔ ∃ y ∈ x.l, big y) :
    Cl Try.prog 12 #[.agg (mvc x).toArray] w (fun e w' => e = .returned (.bool b) ∧ Ext w w') := by
  obtain ⟨xr, xc, A, n, k, l⟩ := x
  dsimp only at hs hg hn hb
  have hl := hs.len
  refine enter Try.func12 rfl rfl rfl ?_
  have hF := Fr.refl w
  repeat' (first | (refine TL.isOp ?_; first | (apply TL.ev; (case hd => rfl); (case h => (first | exact ev_simple rfl))) | (refine TL.boxAFr hF (d := 1) (cs := [.int .i64 xr, .int .i64 xc, .slice A n k]) rfl rfl ?_; clear hF; intro w1 b1 hF)) | (refine T.is ?_; first | refine T.seq ?_ | refine T.region ?_ | refine T.block ?_) | (refine G.is ?_; first | refine G.next ?_) | refine TL.nil ?_)
  refine T.loop (α := Nat) (fun i => [(1, .pointer (some ⟨b1, 0, none⟩)), (3, .int .i64 (i : Int))]) (fun i w' => i ≤ n ∧ (∀ j y, j < i → l[j]? = some y → ¬ big y) ∧ Fr w w' [⟨b1, 24, [.int .i64 xr, .int .i64 xc, .slice A n k]⟩] []) (fun i => n - i) 0 (by repeat (first | exact Sub.nil _ | refine Sub.cons rfl ?_ | refine Sub.cons' rfl (int_congr (by omega)) ?_)) ⟨Nat.zero_le _, fun j y h => absurd h (Nat.not_lt_zero _), hF⟩ ?_
  clear hF
  rintro i w1 ⟨hi, hnb, hF⟩
  rcases Nat.lt_or_ge i n with hin | hin
  · obtain ⟨y, hy⟩ : ∃ y, l[i]? = some y := ⟨_, List.getElem?_eq_getElem (by omega)⟩
    have gy := hg y (List.mem_of_getElem? hy)
    have hym := List.mem_of_getElem? hy
    rcases hs.mem with h0 | ⟨bA, oA, rfl, _⟩
    · exact absurd h0 (by omega)
    have hbl := fun w1 (hE : Ext w w1) => iv_blB w1 y (gy.1.ext hE) (by omega)
    obtain ⟨q, hq⟩ : ∃ q, bl (ival y).natAbs = q := ⟨_, rfl⟩
    rw [hq] at hbl
    have hbq : big y ↔ 1048576 < q := by rw [big_iff]; unfold bigZ; rw [hq]
    obtain ⟨ys, ⟨yA, yn, yc, yl⟩⟩ := y
    dsimp only at hbl
    by_cases hlt : 1048576 < q
    · repeat' (first | (refine TL.isOp ?_; first | (refine TL.isCall ?_; refine TL.call rfl rfl ?_; first | (refine (hbl _ hF.ext).mono ?_; rintro _ wc ⟨rfl, hE⟩; replace hF := hF.exts hE; clear hE; refine Back.mk ?_)) | (refine TL.isBin ?_; refine TL.cmpG rfl rfl rfl rfl (fun hc => ?_) (fun hc => ?_) <;> (try (first | (exfalso; omega) | exact absurd rfl hc))) | (apply TL.ev; (case hd => rfl); (case h => (first | exact ev_simple rfl | (apply Ev.isLoad; first | exact ev_loadFr hF rfl (by refine ⟨?_, ?_⟩; (focus (repeat (first | exact InV.head | apply InV.tail))); rfl) | exact ev_loadMF rfl (hs.ext hF.ext) hy rfl) | exact ev_len rfl | exact ev_fieldAddr rfl | exact ev_fieldAddrE rfl rfl | exact ev_indexM rfl rfl hin (hs.ext hF.ext).some)))) | (refine T.is ?_; first | refine T.seq ?_ | refine T.region ?_ | refine T.block ?_ | refine T.cond_t rfl ?_ | refine T.ret ?_ | refine T.skip ?_) | (refine G.is ?_; first | refine G.next ?_ | refine G.blockR ?_ | refine G.thenR ?_) | refine TL.nil ?_)
      have e : b = true := hb.2 ⟨_, hym, hbq.2 hlt⟩
      subst e
      all_goals exact G.ret1 rfl rfl ⟨rfl, hF.ext⟩
    · repeat' (first | (refine TL.isOp ?_; first | (refine TL.isCall ?_; refine TL.call rfl rfl ?_; first | (refine (hbl _ hF.ext).mono ?_; rintro _ wc ⟨rfl, hE⟩; replace hF := hF.exts hE; clear hE; refine Back.mk ?_)) | (refine TL.isBin ?_; refine TL.cmpG rfl rfl rfl rfl (fun hc => ?_) (fun hc => ?_) <;> (try (first | (exfalso; omega) | exact absurd rfl hc))) | (apply TL.ev; (case hd => rfl); (case h => (first | exact ev_simple rfl | (apply Ev.isBin; first | exact ev_arN rfl rfl rfl (by omega)) | (apply Ev.isLoad; first | exact ev_loadFr hF rfl (by refine ⟨?_, ?_⟩; (focus (repeat (first | exact InV.head | apply InV.tail))); rfl) | exact ev_loadMF rfl (hs.ext hF.ext) hy rfl) | exact ev_len rfl | exact ev_fieldAddr rfl | exact ev_fieldAddrE rfl rfl | exact ev_indexM rfl rfl hin (hs.ext hF.ext).some)))) | (refine T.is ?_; first | refine T.seq ?_ | refine T.region ?_ | refine T.block ?_ | refine T.cond_t rfl ?_ | refine T.cond_f rfl ?_ | refine T.skip ?_) | (refine G.is ?_; first | refine G.next ?_ | refine G.blockN ?_) | refine TL.nil ?_)
      all_goals exact G.again (i + 1) (by repeat (first | exact Sub.nil _ | refine Sub.cons rfl ?_ | refine Sub.cons' rfl (int_congr (by omega)) ?_)) ⟨hin, fun j z hj hz => by
        rcases Nat.lt_or_ge j i with h | h
        · exact hnb j z h hz
        · obtain rfl : j = i := by omega
          rw [hy] at hz
          obtain rfl := Option.some.inj hz
          exact fun h => hlt (hbq.1 h), hF⟩ (by omega)
  · obtain rfl : i = n := by omega
    repeat' (first | (refine TL.isOp ?_; first | (refine TL.isBin ?_; refine TL.cmpG rfl rfl rfl rfl (fun hc => ?_) (fun hc => ?_) <;> (try (first | (exfalso; omega) | exact absurd rfl hc))) | (apply TL.ev; (case hd => rfl); (case h => (first | exact ev_simple rfl | (apply Ev.isLoad; first | exact ev_loadFr hF rfl (by refine ⟨?_, ?_⟩; (focus (repeat (first | exact InV.head | apply InV.tail))); rfl)) | exact ev_len rfl | exact ev_fieldAddr rfl)))) | (refine T.is ?_; first | refine T.seq ?_ | refine T.region ?_ | refine T.cond_f rfl ?_ | refine T.exit ?_ | refine T.ret ?_) | (refine G.is ?_; first | refine G.next ?_ | refine G.blockE ?_ | refine G.thenE ?_) | refine TL.nil ?_)
    have e : b = false := by
      cases b with
      | false => rfl
      | true =>
        obtain ⟨y, hy, h⟩ := hb.1 rfl
        obtain ⟨j, hj⟩ := List.mem_iff_getElem?.1 hy
        exact absurd h (hnb j y (by rw [← hl]; exact (List.getElem?_eq_some_iff.1 hj).1) hj)
    subst e
    all_goals exact G.ret1 rfl rfl ⟨rfl, hF.ext⟩
end Go.Proofs.Ytlpheckjogphmaa

set_option linter.unusedSectionVars false
namespace Go.Proofs.Ytlpheckjogphmaa
open Go Go.Eng Go.Proofs Go.NatM Go.RowKit
set_option maxHeartbeats 4000000 in
theorem matsT (w : World) (x y : MV) (r c K K' : Nat) (F F' : Nat → Nat → Int) (hx : LM w.heap x r c F K) (hy : LM w.heap y r c F' K') (hF' : ∀ i j, i < r → j < c → F i j = F' i j) (hK : K ≤ 1099511627776) (hK' : K' ≤ 1099511627776) :
    Cl Try.prog 40 #[.agg (mvc x).toArray, .agg (mvc y).toArray] w (YesM w) := by
  have e1 := hx.sh
  have e2 := hy.sh
  have sx := hx.s
  have sy := hy.s
  have gx := hx.g
  have gy := hy.g
  clear hx hy
  obtain ⟨xr, xc, A, n, k, l⟩ := x
  obtain ⟨yr, yc, A', n', k', l'⟩ := y
  obtain ⟨h1, h2, h3, h4, h5⟩ := e1
  obtain ⟨h1', h2', _, _, h5'⟩ := e2
  dsimp only at h1 h2 h5 h1' h2' h5' sx sy gx gy
  subst h1 h2 h1' h2'
  rw [h5] at sx
  rw [h5'] at sy
  subst h5 h5'
  have hrc := mul64 h3 h4
  have lx := sx.len
  have ly := sy.len
  refine enter Try.func40 rfl rfl rfl ?_
  have hF := Fr.refl w
  repeat' (first | (refine TL.isOp ?_; first | (refine TL.isG ?_; first | refine TL.grun rfl rfl rfl ?_) | (refine TL.isBin ?_; refine TL.cmpG rfl rfl rfl rfl (fun hc => ?_) (fun hc => ?_) <;> (try (first | (exfalso; omega) | exact absurd rfl hc))) | (apply TL.ev; (case hd => rfl); (case h => (first | exact ev_simple rfl | (apply Ev.isLoad; first | exact ev_loadFr hF rfl (by refine ⟨?_, ?_⟩; (focus (repeat (first | exact InV.head | apply InV.tail))); rfl)) | exact ev_len rfl | exact ev_fieldAddr rfl))) | (refine TL.boxAFr hF (d := 2) (cs := [.int .i64 (r : Int), .int .i64 (c : Int), .slice A (r * c) k]) rfl rfl ?_; clear hF; intro w2 b2 hF) | (refine TL.boxAFr hF (d := 3) (cs := [.int .i64 (r : Int), .int .i64 (c : Int), .slice A' (r * c) k']) rfl rfl ?_; clear hF; intro w3 b3 hF)) | (refine T.is ?_; first | refine T.seq ?_ | refine T.region ?_ | refine T.block ?_ | refine T.cond_f rfl ?_ | refine T.skip ?_) | (refine G.is ?_; first | refine G.next ?_) | refine TL.nil ?_)
  refine T.loop (α := Nat) (fun i => [(2, .pointer (some ⟨b2, 0, none⟩)), (3, .pointer (some ⟨b3, 0, none⟩)), (5, .int .i64 (i : Int))]) (fun i w' => i ≤ r * c ∧ Fr w w' [⟨b3, 24, [.int .i64 (r : Int), .int .i64 (c : Int), .slice A' (r * c) k']⟩, ⟨b2, 24, [.int .i64 (r : Int), .int .i64 (c : Int), .slice A (r * c) k]⟩] []) (fun i => r * c - i) 0 (by repeat (first | exact Sub.nil _ | refine Sub.cons rfl ?_ | refine Sub.cons' rfl (int_congr (by omega)) ?_)) ⟨Nat.zero_le _, hF⟩ ?_
  clear hF
  rintro i w1 ⟨hi, hF⟩
  rcases Nat.lt_or_ge i (r * c) with hin | hin
  · have hc : 0 < c := Nat.pos_of_ne_zero fun e => by rw [e, Nat.mul_zero] at hin; omega
    have hq1 : i / c < r := (Nat.div_lt_iff_lt_mul hc).2 hin
    have hq2 := Nat.mod_lt i hc
    have gp := gx (i / c) (i % c) hq1 hq2
    have gq := gy (i / c) (i % c) hq1 hq2
    rw [← hF' _ _ hq1 hq2] at gq
    rw [Nat.mul_comm, Nat.div_add_mod] at gp gq
    have hp : l[i]? = some (l.getD i default) := by simp [List.getD, show i < l.length by omega]
    have hq : l'[i]? = some (l'.getD i default) := by simp [List.getD, show i < l'.length by omega]
    generalize l.getD i default = y at *
    generalize l'.getD i default = z at *
    generalize F (i / c) (i % c) = v at *
    clear hc hq1 hq2
    repeat' (first | (refine TL.isOp ?_; first | (refine TL.isCall ?_; refine TL.call rfl rfl ?_; first | (refine (alikeL _ y z (gp.1.ext hF.ext) (gq.1.ext hF.ext) (by omega) (by omega)).mono ?_; rintro _ wc ⟨rfl, hE⟩; replace hF := hF.exts hE; clear hE; refine Back.mk ?_)) | (refine TL.isBin ?_; refine TL.cmpG rfl rfl rfl rfl (fun hc => ?_) (fun hc => ?_) <;> (try (first | (exfalso; omega) | exact absurd rfl hc))) | (apply TL.ev; (case hd => rfl); (case h => (first | exact ev_simple rfl | (apply Ev.isBin; first | exact ev_arN rfl rfl rfl (by omega)) | (apply Ev.isLoad; first | exact ev_loadFr hF rfl (by refine ⟨?_, ?_⟩; (focus (repeat (first | exact InV.head | apply InV.tail))); rfl)) | exact ev_len rfl | exact ev_fieldAddr rfl)))) | (refine TF.is ?_; first | refine TF.nil ?_ | refine TF.e rfl ?_ | (refine TF.pick rfl ?_; first | (apply TFo.ev; (case hd => rfl); (case h => (intro wh hF; first | exact ev_simple rfl | (apply Ev.isLoad; first | exact ev_loadFr hF rfl (by refine ⟨?_, ?_⟩; (focus (repeat (first | exact InV.head | apply InV.tail))); rfl) | exact ev_loadM rfl (sx.ext hF.ext) hp | exact ev_loadM rfl (sy.ext hF.ext) hq) | exact ev_fieldAddr rfl | exact ev_indexM rfl rfl hin (sx.ext hF.ext).some | exact ev_indexM rfl rfl hin (sy.ext hF.ext).some))))) | (refine T.is ?_; first | refine T.seq ?_ | refine T.region ?_ | refine T.block ?_ | refine T.cond_t rfl ?_ | refine T.cond_f rfl ?_ | refine T.skip ?_ | (refine T.regionFr hF 6 12 (.s 0 (.s 1 (.s 2 (.s 3 (.s 4 (.s 5 (.s 6 (.s 7 (.s 8 (.s 9 (.e 10 (.s 11 .nil)))))))))))) mixed (by kernel_rfl) ?_; clear hF; intro wr hF)) | (refine G.is ?_; first | refine G.next ?_ | refine G.blockN ?_ | refine G.only ?_ | refine G.tree rfl (by first | exact hF | exact hF.weak (List.sublist_append_right _ _) (by repeat (first | exact allR | apply allT)) | exact hF.weak (by repeat (first | exact List.Sublist.refl _ | apply List.Sublist.cons)) (by repeat (first | exact allR | apply allT)) | exact hF.weak (by repeat (first | exact List.Sublist.refl _ | apply List.Sublist.cons)) (by repeat (first | exact allN | refine allH (by repeat (first | exact memH | apply memT)) ?_))) ?_) | refine TL.nil ?_)
    all_goals exact G.again (i + 1) (by repeat (first | exact Sub.nil _ | refine Sub.cons rfl ?_ | refine Sub.cons' rfl (int_congr (by omega)) ?_)) ⟨hin, hF⟩ (by omega)
  · obtain rfl : i = r * c := by omega
    repeat' (first | (refine TL.isOp ?_; first | (refine TL.isBin ?_; refine TL.cmpG rfl rfl rfl rfl (fun hc => ?_) (fun hc => ?_) <;> (try (first | (exfalso; omega) | exact absurd rfl hc))) | (apply TL.ev; (case hd => rfl); (case h => (first | exact ev_simple rfl | (apply Ev.isLoad; first | exact ev_loadFr hF rfl (by refine ⟨?_, ?_⟩; (focus (repeat (first | exact InV.head | apply InV.tail))); rfl)) | exact ev_len rfl | exact ev_fieldAddr rfl)))) | (refine T.is ?_; first | refine T.seq ?_ | refine T.region ?_ | refine T.cond_f rfl ?_ | refine T.exit ?_ | refine T.ret ?_) | (refine G.is ?_; first | refine G.next ?_ | refine G.blockE ?_ | refine G.thenE ?_) | refine TL.nil ?_)
    exact G.ret1 rfl rfl ⟨rfl, hF.ext⟩
end Go.Proofs.Ytlpheckjogphmaa

namespace Go.Proofs.Ytlpheckjogphmaa
open Go Go.Eng Go.Proofs Go.NatM Go.RowKit

theorem RetZ.more {w : World} {z : Int} {K K' : Nat} (hK : K ≤ K') {e : Ending} {w' : World} (h : RetZ w z K e w') : RetZ w z K' e w' := by
  obtain ⟨x, h1, h2, h3, h4⟩ := h
  exact ⟨x, h1, h2, h3, Nat.le_trans h4 hK⟩
end Go.Proofs.Ytlpheckjogphmaa

set_option linter.unusedSectionVars false
namespace Go.Eng
open Go Go.Proofs Go.NatM Go.RowKit Go.Proofs.Ytlpheckjogphmaa
theorem inrc_len {r c : Nat} {ks : List (Int × Int)} (hn : ks.Nodup) (h : ∀ k ∈ ks, (0 ≤ k.1 ∧ k.1 < (r : Int)) ∧ (0 ≤ k.2 ∧ k.2 < (c : Int))) : ks.length ≤ r * c := by
  have h1 := nodup_len_le (b := ((List.range r).map fun i => (List.range c).map fun j => (((i : Nat) : Int), ((j : Nat) : Int))).flatten) hn fun k hk => by
    obtain ⟨a, b⟩ := k
    have := h _ hk
    dsimp only at this
    refine List.mem_flatten.2 ⟨_, List.mem_map.2 ⟨a.toNat, List.mem_range.2 (by omega), rfl⟩, List.mem_map.2 ⟨b.toNat, List.mem_range.2 (by omega), ?_⟩⟩
    have e1 : ((a.toNat : Nat) : Int) = a := by omega
    have e2 : ((b.toNat : Nat) : Int) = b := by omega
    rw [e1, e2]
  rwa [cross_len (fun (i j : Nat) => ((i : Int), (j : Int))), List.length_range, List.length_range] at h1
theorem InRC.add {r c : Nat} {A B : ZF} (hA : InRC r c A) (hB : InRC r c B) : InRC r c (addF A B) := fun k hk => by
  by_cases h : A k = 0
  · exact hB k fun e => hk (by unfold addF; rw [h, e]; rfl)
  · exact hA k h
theorem refu_big {r c : Nat} {Z : ZF} (hi : InRC r c Z) (hrc : r * c ≤ 4096) (h : Refu Z) : ∃ k, bigZ (Z k) := by
  rcases h with h | ⟨l', hz, hn, hv, hl⟩
  · exact h
  · have := inrc_len hn fun k hk => hi k (by rw [← hv]; exact (hz.keys k).1 hk)
    rw [List.length_map] at this
    omega
end Go.Eng
namespace Go.Proofs.Ytlpheckjogphmaa
open Go Go.Eng Go.Proofs Go.NatM Go.RowKit
end Go.Proofs.Ytlpheckjogphmaa

set_option linter.unusedSectionVars false
namespace Go.Proofs.Ytlpheckjogphmaa
open Go Go.Eng Go.Proofs Go.NatM Go.RowKit
end Go.Proofs.Ytlpheckjogphmaa

set_option linter.unusedSectionVars false
namespace Go.Eng
open Go Go.Proofs Go.NatM Go.RowKit Go.Proofs.Ytlpheckjogphmaa
theorem rows_at (F : Nat → Nat → Int) {r c i j : Nat} (hi : i < r) (hj : j < c) : rowsF F c r 0 ((i : Int), (j : Int)) = F i j := by
  unfold rowsF
  dsimp only
  rw [if_pos (by omega)]; rfl
theorem rowsF_in (F : Nat → Nat → Int) (r c : Nat) : InRC r c (rowsF F c r 0) := fun k hk => by
  unfold rowsF at hk
  by_cases h : (0 ≤ k.1 ∧ 0 ≤ k.2 ∧ k.2 < (c : Int)) ∧ (k.1 < (r : Int) ∨ (k.1 = (r : Int) ∧ k.2 < ((0 : Nat) : Int)))
  · omega
  · rw [if_neg h] at hk; exact absurd rfl hk
theorem bigs_iff {r c : Nat} {Z : ZF} {F : Nat → Nat → Int} (hi : InRC r c Z) (e : ∀ i j, i < r → j < c → Z ((i : Int), (j : Int)) = F i j) : (∃ k, bigZ (Z k)) ↔ ∃ i j, i < r ∧ j < c ∧ bigZ (F i j) := by
  constructor
  · rintro ⟨⟨a, b⟩, h⟩
    have h0 : Z (a, b) ≠ 0 := fun e => bigZ_zero (by rw [← e]; exact h)
    have hr := hi _ h0
    dsimp only at hr
    have e1 : ((a.toNat : Nat) : Int) = a := by omega
    have e2 : ((b.toNat : Nat) : Int) = b := by omega
    refine ⟨a.toNat, b.toNat, by omega, by omega, ?_⟩
    rw [← e _ _ (by omega) (by omega), e1, e2]; exact h
  · rintro ⟨i, j, h1, h2, h⟩
    exact ⟨_, by rw [e i j h1 h2]; exact h⟩
theorem lm_bigs {H : Array Obj} {m : MV} {r c K : Nat} {F : Nat → Nat → Int} (h : LM H m r c F K) : (∃ y ∈ m.l, big y) ↔ ∃ i j, i < r ∧ j < c ∧ bigZ (F i j) := by
  have hl := h.s.len
  have hn := h.sh.n
  constructor
  · rintro ⟨y, hy, hb⟩
    obtain ⟨q, hq⟩ := List.mem_iff_getElem?.1 hy
    have hqn : q < r * c := by have := (List.getElem?_eq_some_iff.1 hq).1; omega
    have hc : 0 < c := Nat.pos_of_ne_zero fun e => by rw [e, Nat.mul_zero] at hqn; omega
    have h1 : q / c < r := (Nat.div_lt_iff_lt_mul hc).2 hqn
    have h2 := Nat.mod_lt q hc
    have h3 := (h.g _ _ h1 h2).1.val
    have e : q / c * c + q % c = q := by rw [Nat.mul_comm]; exact Nat.div_add_mod q c
    rw [e] at h3
    have e2 : m.l.getD q default = y := by simp [List.getD, hq]
    rw [e2] at h3
    exact ⟨_, _, h1, h2, by rw [← h3]; exact (big_iff y).1 hb⟩
  · rintro ⟨i, j, h1, h2, hb⟩
    have hlt := place_lt h1 h2
    have e : m.l[i * c + j]? = some (m.l.getD (i * c + j) default) := by simp [List.getD, show i * c + j < m.l.length by omega]
    refine ⟨_, List.mem_of_getElem? e, (big_iff _).2 ?_⟩
    rw [(h.g i j h1 h2).1.val]; exact hb
theorem gz_n {H : Array Obj} {g m r c N : Nat} {Z : ZF} (h : GZ H g m r c Z N) (hi : InRC r c Z) (hrc : r * c ≤ 4096) : N ≤ 4096 := by
  obtain ⟨l, hG, hz, rfl, hv⟩ := h
  have := inrc_len (Gr.nodup hG) fun k hk => hi k (by rw [← hv]; exact (hz.keys k).1 hk)
  rw [List.length_map] at this
  omega
end Go.Eng
namespace Go.Proofs.Ytlpheckjogphmaa
open Go Go.Eng Go.Proofs Go.NatM Go.RowKit
/-- long of a matrix that reads F -/
theorem longLM (w : World) (m : MV) (r c K : Nat) (F : Nat → Nat → Int) (h : LM w.heap m r c F K) (hK : K ≤ 1099511627776) (b : Bool) (hb : b = true ↔ ∃ i j, i < r ∧ j < c ∧ bigZ (F i j)) :
    Cl Try.prog 12 #[.agg (mvc m).toArray] w (fun e w' => e = .returned (.bool b) ∧ Ext w w') := by
  have hn := h.sh.n
  have hrc := mul64 h.sh.r64 h.sh.c64
  have hl := h.s.len
  refine longL w m K h.s (fun y hy => ?_) hK (by omega) b (hb.trans (lm_bigs h).symm)
  obtain ⟨q, hq⟩ := List.mem_iff_getElem?.1 hy
  have hqn : q < r * c := by have := (List.getElem?_eq_some_iff.1 hq).1; omega
  have hc : 0 < c := Nat.pos_of_ne_zero fun e => by rw [e, Nat.mul_zero] at hqn; omega
  have h3 := h.g _ _ ((Nat.div_lt_iff_lt_mul hc).2 hqn) (Nat.mod_lt q hc)
  have e : q / c * c + q % c = q := by rw [Nat.mul_comm]; exact Nat.div_add_mod q c
  rw [e] at h3
  have e2 : m.l.getD q default = y := by simp [List.getD, hq]
  rw [e2] at h3
  exact ⟨h3.1.g, h3.2⟩
end Go.Proofs.Ytlpheckjogphmaa

set_option linter.unusedSectionVars false
namespace Go.Eng
open Go Go.Proofs Go.NatM Go.RowKit Go.Proofs.Ytlpheckjogphmaa
def swpF (Z : ZF) (i j : Int) (k : Int × Int) : Int := Z (swp i j k.1, k.2)
def clrF (Z : ZF) (i : Int) (k : Int × Int) : Int := if k.1 = i then 0 else Z k
/-- a small grid has room at an empty place -/
theorem gz_room {H : Array Obj} {g m r c N : Nat} {Z : ZF} {p : Int × Int} (h : GZ H g m r c Z N) (hi : InRC r c Z) (hrc : r * c ≤ 4096) (hp : (0 ≤ p.1 ∧ p.1 < (r : Int)) ∧ (0 ≤ p.2 ∧ p.2 < (c : Int))) (h0 : Z p = 0) : N < 4096 := by
  obtain ⟨l, hG, hz, rfl, hv⟩ := h
  have hno : p ∉ l.map (·.1) := fun hm => (hz.keys p).1 hm (by rw [hv, h0])
  have := inrc_len (r := r) (c := c) (List.nodup_cons.2 ⟨hno, Gr.nodup hG⟩) fun k hk => by
    rcases List.mem_cons.1 hk with rfl | hk
    · exact hp
    · exact hi k (by rw [← hv]; exact (hz.keys k).1 hk)
  simp only [List.length_cons, List.length_map] at this
  omega
end Go.Eng
namespace Go.Proofs.Ytlpheckjogphmaa
open Go Go.Eng Go.Proofs Go.NatM Go.RowKit
/-- a change of a grid: an error's number and a function -/
def RetCh (w : World) (g m r c : Nat) (Z : ZF) (er : Int) (e : Ending) (w' : World) : Prop := ∃ N', e = .returned (.int .i64 er) ∧ Exs (fun k => k = m) w w' ∧ GZ w'.heap g m r c Z N'
theorem RetCh.of {w w' : World} {g m r c N : Nat} {Z : ZF} {er : Int} {e : Ending} (h : GZ w.heap g m r c Z N) (he : e = .returned (.int .i64 er)) (hE : Ext w w') : RetCh w g m r c Z er e w' := ⟨N, he, Exs.of hE, h.ext hE⟩
theorem chSet3 (w : World) (g m r c N : Nat) (Z : ZF) (p1 p2 : Int) (x : IV) (hG : GZ w.heap g m r c Z N) (hp : ¬ ((0 ≤ p1 ∧ p1 < (r : Int)) ∧ (0 ≤ p2 ∧ p2 < (c : Int)))) :
    Cl Try.prog 16 #[.pointer (some ⟨g, 0, none⟩), .int .i64 p1, .int .i64 p2, ivA x] w (RetCh w g m r c Z 3) := by
  obtain ⟨l, h, _⟩ := id hG
  exact (gset_out w g m r c l p1 p2 x h hp).mono fun e w' k => .of hG k.1 k.2
theorem chSet5 (w : World) (g m r c N : Nat) (Z : ZF) (p1 p2 : Int) (x : IV) (hG : GZ w.heap g m r c Z N) (hp : (0 ≤ p1 ∧ p1 < (r : Int)) ∧ (0 ≤ p2 ∧ p2 < (c : Int))) (hx : GI w.heap x) (hxn : x.m.n ≤ 1099511627776) (hb : bigZ (ival x)) :
    Cl Try.prog 16 #[.pointer (some ⟨g, 0, none⟩), .int .i64 p1, .int .i64 p2, ivA x] w (RetCh w g m r c Z 5) :=
  (setF5 w g m r c N Z p1 p2 x hG hp hx hxn (.inl hb)).mono fun e w' h => ⟨N, h.1, h.2.1, h.2.2⟩
theorem chSet0 (w : World) (g m r c N : Nat) (Z : ZF) (p1 p2 : Int) (x : IV) (hG : GZ w.heap g m r c Z N) (hi : InRC r c Z) (hrc : r * c ≤ 4096) (hp : (0 ≤ p1 ∧ p1 < (r : Int)) ∧ (0 ≤ p2 ∧ p2 < (c : Int))) (hx : GI w.heap x) (hxn : x.m.n ≤ 1099511627776) (hb : ¬ bigZ (ival x)) :
    Cl Try.prog 16 #[.pointer (some ⟨g, 0, none⟩), .int .i64 p1, .int .i64 p2, ivA x] w (RetCh w g m r c (updZ Z (p1, p2) (ival x)) 0) := by
  have hnb : ¬ SetBz Z N (p1, p2) (ival x) := by
    rintro (h | ⟨h0, _, h⟩)
    · exact hb h
    · have := gz_room hG hi hrc hp h0; omega
  obtain ⟨l, hGr, hz, rfl, hv⟩ := id hG
  have hb' : ¬ SetBad l (p1, p2) (ival x) := by unfold SetBad; rw [hv]; exact hnb
  refine (gsetZ_ok w g m r c l p1 p2 x hGr hz hp hx hxn).mono ?_
  rintro e w' ⟨er, l2, ⟨rfl, hE, hG2⟩, ⟨rfl, rfl, hb2⟩ | ⟨rfl, _, hz2, hv2, hl2⟩⟩
  · exact absurd hb2 hb'
  · exact ⟨_, rfl, hE, l2, hG2, hz2, rfl, fun k => by rw [hv2]; unfold updZ; rw [hv]⟩
theorem chRow3 (w : World) (g m r c N : Nat) (Z : ZF) (i j : Int) (x : IV) (hG : GZ w.heap g m r c Z N) (h : ¬ ((0 ≤ i ∧ i < (r : Int)) ∧ (0 ≤ j ∧ j < (r : Int)))) :
    Cl Try.prog 30 #[.pointer (some ⟨g, 0, none⟩), .int .i64 i, .int .i64 j, ivA x] w (RetCh w g m r c Z 3) := by
  obtain ⟨l, h1, _⟩ := id hG
  exact (garow_bad w g m r c l i j x h1 h).mono fun e w' k => .of hG k.1 k.2
theorem rowF_in {r c : Nat} {Z : ZF} {i j kv : Int} (hi : InRC r c Z) (h1 : 0 ≤ i ∧ i < (r : Int)) : InRC r c (rowF Z i j kv) := fun k hk => by
  unfold rowF at hk
  by_cases e : k.1 = i
  · rw [if_pos e] at hk
    refine ⟨by rw [e]; exact h1, ?_⟩
    by_cases h0 : Z (i, k.2) = 0
    · have : Z (j, k.2) ≠ 0 := fun e2 => hk (by rw [h0, e2, Int.mul_zero]; rfl)
      exact (hi _ this).2
    · exact (hi _ h0).2
  · rw [if_neg e] at hk; exact hi k hk
theorem chRow (w : World) (g m r c N : Nat) (Z : ZF) (i j : Int) (x : IV) (hG : GZ w.heap g m r c Z N) (hin : InRC r c Z) (hrc : r * c ≤ 4096) (hi : 0 ≤ i ∧ i < (r : Int)) (hj : 0 ≤ j ∧ j < (r : Int)) (hx : GI w.heap x) (hxn : x.m.n ≤ 1073741824) :
    Cl Try.prog 30 #[.pointer (some ⟨g, 0, none⟩), .int .i64 i, .int .i64 j, ivA x] w
      (fun e w' => ((∃ k, bigZ (rowF Z i j (ival x) k)) ∧ RetCh w g m r c Z 5 e w') ∨ ((∀ k, ¬ bigZ (rowF Z i j (ival x) k)) ∧ RetCh w g m r c (rowF Z i j (ival x)) 0 e w')) := by
  have hN := gz_n hG hin hrc
  obtain ⟨l, hGr, hz, rfl, hv⟩ := hG
  refine (garow_ok w g m r c l i j x hGr hN hz hi hj hx hxn).mono ?_
  have ez : rowZ l i j (ival x) = rowF Z i j (ival x) := funext fun k => rowZ_eq hv i j _ k
  rw [ez]
  rintro e w' ⟨er, l2, ⟨rfl, hE, hG2⟩, ⟨rfl, rfl, hr⟩ | ⟨rfl, hz2, hl2, hv2, hb2⟩⟩
  · exact .inl ⟨refu_big (rowF_in hin hi) hrc hr, _, rfl, hE, _, hG2, hz, rfl, hv⟩
  · exact .inr ⟨hb2, _, rfl, hE, l2, hG2, hz2, rfl, hv2⟩
theorem chSwap3 (w : World) (g m r c N : Nat) (Z : ZF) (i j : Int) (hG : GZ w.heap g m r c Z N) (h : ¬ ((0 ≤ i ∧ i < (r : Int)) ∧ (0 ≤ j ∧ j < (r : Int)))) :
    Cl Try.prog 36 #[.pointer (some ⟨g, 0, none⟩), .int .i64 i, .int .i64 j] w (RetCh w g m r c Z 3) := by
  obtain ⟨l, h1, _⟩ := id hG
  exact (gswap_bad w g m r c l i j h1 h).mono fun e w' k => .of hG k.1 k.2
theorem chSwap (w : World) (g m r c N : Nat) (Z : ZF) (i j : Int) (hG : GZ w.heap g m r c Z N) (hN : N ≤ 4096) (hi : 0 ≤ i ∧ i < (r : Int)) (hj : 0 ≤ j ∧ j < (r : Int)) :
    Cl Try.prog 36 #[.pointer (some ⟨g, 0, none⟩), .int .i64 i, .int .i64 j] w (RetCh w g m r c (swpF Z i j) 0) := by
  obtain ⟨l, hGr, hz, rfl, hv⟩ := hG
  refine (gswap_ok w g m r c l i j hGr (by omega) hi hj).mono ?_
  rintro e w' ⟨l', ⟨rfl, hE, hG2⟩, hk⟩
  have hk' : ∀ k, zv l' k = swpF Z i j k := fun k => by
    obtain ⟨a, b⟩ := k
    unfold swpF
    rw [← hv]
    unfold zv at0
    rw [hk]
  refine ⟨_, rfl, hE, l', hG2, fun p hp => ?_, rfl, hk'⟩
  have h1 := lkp_of_mem (Gr.nodup hG2) (x := p.1) (v := p.2) hp
  obtain ⟨⟨a, b⟩, v⟩ := p
  dsimp only at h1
  rw [hk] at h1
  exact hz ((swp i j a, b), v) (lkp_mem (show lkp l (swp i j a, b) = some v from h1))
theorem chClear3 (w : World) (g m r c N : Nat) (Z : ZF) (i : Int) (hG : GZ w.heap g m r c Z N) (h : ¬ (0 ≤ i ∧ i < (r : Int))) :
    Cl Try.prog 37 #[.pointer (some ⟨g, 0, none⟩), .int .i64 i] w (RetCh w g m r c Z 3) := by
  obtain ⟨l, h1, _⟩ := id hG
  exact (gclear_bad w g m r c l i h1 h).mono fun e w' k => .of hG k.1 k.2
theorem chClear (w : World) (g m r c N : Nat) (Z : ZF) (i : Int) (hG : GZ w.heap g m r c Z N) (hN : N ≤ 4096) (hi : 0 ≤ i ∧ i < (r : Int)) :
    Cl Try.prog 37 #[.pointer (some ⟨g, 0, none⟩), .int .i64 i] w (RetCh w g m r c (clrF Z i) 0) := by
  obtain ⟨l, hGr, hz, rfl, hv⟩ := hG
  refine (gclear_ok w g m r c l i hGr (by omega) hi).mono ?_
  rintro e w' ⟨rfl, hE, hG2⟩
  refine ⟨_, rfl, hE, outRow i l, hG2, hz.sub fun p hp => (List.mem_filter.1 hp).1, rfl, fun k => ?_⟩
  obtain ⟨a, b⟩ := k
  rw [zv_outRow, hv]; rfl
end Go.Proofs.Ytlpheckjogphmaa

namespace Go.Proofs.Ytlpheckjogphmaa
open Go Go.Eng Go.Proofs Go.NatM Go.RowKit
/-- a new square matrix and an error's number 0 -/
def RetUV (w : World) (n : Nat) (e : Ending) (w' : World) : Prop := ∃ (b : Nat) (l : List IV), e = .returned (.tuple #[.agg #[.int .i64 (n : Int), .int .i64 (n : Int), .slice (some ⟨b, 0, none⟩) (n * n) (n * n)], .int .i64 0]) ∧ Vr w'.heap b 42 (l.flatMap ivc) ∧ l.length = n * n ∧ LsK (n * n) l (fun q => if q / n = q % n then 1 else 0) 1 w'.heap ∧ Ext w w' ∧ w.heap.size ≤ b
theorem lk_unit {H : Array Obj} {n : Nat} {l : List IV} (h : ∀ i j, i < n → j < n → LI H (if i = j then 1 else 0) (l.getD (i * n + j) default) ∧ (l.getD (i * n + j) default).m.n ≤ 1) : LsK (n * n) l (fun q => if q / n = q % n then 1 else 0) 1 H := fun q hq => by
  have hc : 0 < n := Nat.pos_of_ne_zero fun e => by rw [e, Nat.mul_zero] at hq; omega
  have h1 : q / n < n := (Nat.div_lt_iff_lt_mul hc).2 hq
  have := h (q / n) (q % n) h1 (Nat.mod_lt _ hc)
  have e : q / n * n + q % n = q := by rw [Nat.mul_comm]; exact Nat.div_add_mod q n
  rwa [e] at this
theorem munitV (w : World) (n : Nat) (hn : n ≤ 64) : Cl Try.prog 91 #[.int .i64 (n : Int)] w (RetUV w n) := by
  have hs1 := fun (w : World) => (side_ok w.heap (n : Int) true (decide_eq_true (by omega))).cl
  refine enter Try.func91 rfl rfl rfl ?_
  have hF := Fr.refl w
  repeat' (first | (refine TL.isOp ?_; first | (refine TL.isCall ?_; refine TL.call rfl rfl ?_; first | (refine (hs1 _).mono ?_; rintro _ wc ⟨rfl, hE⟩; replace hF := hF.exts hE.ext; clear hE; refine Back.mk ?_) | (refine (build_okV _ n n hn hn 104 [] inferInstance (fun i j => if i = j then 1 else 0) 1 (fun i j w1 hi hj hE1 => unit1_ok w1 i j)).mono ?_; rintro _ wz ⟨bz, lz, rfl, hVz, hlz, hgz, hE, hbz⟩; have hbz2 := Nat.le_trans hF.exs.size hbz; replace hF := Fr.addLK (hF.newGe hbz hVz hE) (lk_unit hgz); clear hE hgz hVz; refine Back.mk ?_)) | (apply TL.ev; (case hd => rfl); (case h => (first | exact ev_simple rfl))) | (refine TL.storeAFr hF rfl rfl rfl rfl (by refine ⟨?_, ?_⟩; (focus (repeat (first | apply SetV.head | apply SetV.tail))); rfl) rfl ?_; clear hF; intro ws hF) | (refine TL.allocFr hF (d := 2) rfl rfl ?_; clear hF; intro w2 b2 hF)) | (refine T.is ?_; first | refine T.seq ?_ | refine T.region ?_ | refine T.cond_f rfl ?_ | refine T.ret ?_ | refine T.skip ?_) | (refine G.is ?_; first | refine G.next ?_) | refine TL.nil ?_)
  exact G.retC2 rfl rfl rfl (held_agg (hF.var (by repeat (first | exact InV.head | apply InV.tail))) rfl) ⟨bz, lz, rfl, hF.var (b := bz) (by repeat (first | exact InV.head | apply InV.tail)), hlz, Fr.lk hF (i := n * n) (l := lz) (by repeat (first | exact memH | apply memT)), hF.ext, hbz2⟩
end Go.Proofs.Ytlpheckjogphmaa

namespace Go.Proofs.Ytlpheckjogphmaa
open Go Go.Eng Go.Proofs Go.NatM Go.RowKit

end Go.Proofs.Ytlpheckjogphmaa
