/- Layer 10: sparse.Of. Regions that draw their order, in a round's frame. Layer 10: the contract of sparse.Of. Matrices whose block is known whole: build (MatA's walk, told with its block), Diag of nothing, Zero. mat.Zero with its block known whole. Layer 10: the contract of Dense. Layer 10: Of refused, the law's long and mats. Layer 10: the law's mats; grids whose sizes do not fit. Layer 9: Scale, VecMul, Sub, Add and Sub of shapes that do not go, Equal. Layer 10: products and sums of small grids; grids whose sizes do not fit. Layer 10: SparseRing where a matrix has no grid. Layer 10: entries of products and sums of small grids. Layer 10: the changes of a small grid, as functions. mat.Unit with its block known whole. Layer 9: VecMul, Equal. Layer 9: Pick. Layer 10: the law's unit; mat.Least with its block known whole. Opening matrices handed in, with the range of their numbers. An argument as the engine has it: []Act (changes of a grid). Layer 10: a change of a dense matrix: the law's dense. Ranges over functions where others ran before: the activation's marks are a list; loops that hold such statements. -/
import Derived.Test.YtlpheckjogphmaaGreatPz7
import Derived.Test.YtlpheckjogphmaaGreatPz5
import Derived.Test.YtlpheckjogphmaaGreatPz2
import Derived.OrdersIn
import Derived.Test.YtlpheckjogphmaaGreatPz6
set_option maxHeartbeats 8000000
set_option linter.unusedVariables false
set_option linter.unusedSimpArgs false
set_option linter.unusedSectionVars false
namespace Go.Proofs.YtlpheckjogphmaaGreat
open Go Go.Eng Go.Proofs Go.NatM Go.RowKit
theorem indexLong (w : World) (n k : Nat) (A : Option Addr) (l : List IV) (hs : Sm 2 ivc w.heap w.heap.size A n k l) (hn : n ≤ 1048576) (hg : ∀ y ∈ l, GI w.heap y ∧ y.m.n ≤ 1099511627776) :
    Cl Tryz.prog 58 #[.slice A n k, .func (.func 32) #[] #[]] w (fun e w' => ∃ r : Int, e = .returned (.int .i64 r) ∧ Ext w w' ∧ (0 ≤ r ↔ ∃ y ∈ l, big y)) := by
  have hl := hs.len
  refine enter Tryz.func58 rfl rfl rfl ?_
  have hF := Fr.refl w
  repeat' (first | (refine TL.isOp ?_; first | (apply TL.ev; (case hd => rfl); (case h => (first | exact ev_simple rfl | exact ev_len rfl)))) | (refine T.is ?_; first | refine T.seq ?_ | refine T.region ?_ | refine T.block ?_) | (refine G.is ?_; first | refine G.next ?_) | refine TL.nil ?_)
  refine T.loop (α := Nat) (fun i => [(0, .slice A n k), (1, .func (.func 32) #[] #[]), (6, .slice A n k), (7, .int .i64 (n : Int)), (8, .int .i64 (i : Int))]) (fun i w' => i ≤ n ∧ (∀ j y, j < i → l[j]? = some y → ¬ big y) ∧ Fr w w' [] []) (fun i => n - i) 0 (by repeat (first | exact Sub.nil _ | refine Sub.cons rfl ?_ | refine Sub.cons' rfl (int_congr (by omega)) ?_)) ⟨Nat.zero_le _, fun j y h => absurd h (Nat.not_lt_zero _), hF⟩ ?_
  clear hF
  rintro i w1 ⟨hi, hb, hF⟩
  rcases Nat.lt_or_ge i n with hin | hin
  · obtain ⟨y, hy⟩ : ∃ y, l[i]? = some y := ⟨_, List.getElem?_eq_getElem (by omega)⟩
    have gy := hg y (List.mem_of_getElem? hy)
    have hym := List.mem_of_getElem? hy
    rcases hs.mem with h0 | ⟨bA, oA, rfl, _⟩
    · exact absurd h0 (by omega)
    obtain ⟨ys, ⟨yA, yn, yc, yl⟩⟩ := y
    by_cases hbig : big ⟨ys, ⟨yA, yn, yc, yl⟩⟩
    · have hlong := fun w1 (hE : Ext w w1) => long_ok w1 ⟨ys, ⟨yA, yn, yc, yl⟩⟩ (gy.1.ext hE) gy.2 true ⟨fun _ => hbig, fun _ => rfl⟩
      repeat' (first | (refine TL.isOp ?_; first | (refine TL.isBin ?_; refine TL.cmpG rfl rfl rfl rfl (fun hc => ?_) (fun hc => ?_) <;> (try (first | (exfalso; omega) | exact absurd rfl hc))) | (apply TL.ev; (case hd => rfl); (case h => (first | exact ev_simple rfl | (apply Ev.isLoad; first | exact ev_loadM rfl (hs.ext hF.ext) hy) | exact ev_indexM rfl rfl hin (hs.ext hF.ext).some))) | (refine TL.callV (vs := [.agg (ivc ⟨ys, ⟨yA, yn, yc, yl⟩⟩).toArray]) (cap := []) inferInstance rfl rfl rfl ?_; refine (hlong _ hF.ext).mono ?_; rintro _ wf ⟨rfl, hE⟩; replace hF := hF.exts hE; clear hE; refine Back.mk ?_)) | (refine T.is ?_; first | refine T.seq ?_ | refine T.region ?_ | refine T.block ?_ | refine T.cond_t rfl ?_ | refine T.ret ?_ | refine T.skip ?_) | (refine G.is ?_; first | refine G.next ?_ | refine G.blockR ?_ | refine G.thenR ?_) | refine TL.nil ?_)
      all_goals exact G.ret1 rfl rfl ⟨_, rfl, hF.ext, ⟨fun _ => ⟨_, hym, hbig⟩, fun _ => by omega⟩⟩
    · have hlong := fun w1 (hE : Ext w w1) => long_ok w1 ⟨ys, ⟨yA, yn, yc, yl⟩⟩ (gy.1.ext hE) gy.2 false ⟨fun h => (by cases h), fun h => absurd h hbig⟩
      repeat' (first | (refine TL.isOp ?_; first | (refine TL.isBin ?_; refine TL.cmpG rfl rfl rfl rfl (fun hc => ?_) (fun hc => ?_) <;> (try (first | (exfalso; omega) | exact absurd rfl hc))) | (apply TL.ev; (case hd => rfl); (case h => (first | exact ev_simple rfl | (apply Ev.isBin; first | exact ev_arN rfl rfl rfl (by omega)) | (apply Ev.isLoad; first | exact ev_loadM rfl (hs.ext hF.ext) hy) | exact ev_indexM rfl rfl hin (hs.ext hF.ext).some))) | (refine TL.callV (vs := [.agg (ivc ⟨ys, ⟨yA, yn, yc, yl⟩⟩).toArray]) (cap := []) inferInstance rfl rfl rfl ?_; refine (hlong _ hF.ext).mono ?_; rintro _ wf ⟨rfl, hE⟩; replace hF := hF.exts hE; clear hE; refine Back.mk ?_)) | (refine T.is ?_; first | refine T.seq ?_ | refine T.region ?_ | refine T.block ?_ | refine T.cond_t rfl ?_ | refine T.cond_f rfl ?_ | refine T.skip ?_) | (refine G.is ?_; first | refine G.next ?_ | refine G.blockN ?_) | refine TL.nil ?_)
      all_goals exact G.again (i + 1) (by repeat (first | exact Sub.nil _ | refine Sub.cons rfl ?_ | refine Sub.cons' rfl (int_congr (by omega)) ?_)) ⟨hin, fun j z hj hz => by
        rcases Nat.lt_or_ge j i with h | h
        · exact hb j z h hz
        · obtain rfl : j = i := by omega
          rw [hy] at hz
          obtain rfl := Option.some.inj hz
          exact hbig, hF⟩ (by omega)
  · obtain rfl : i = n := by omega
    repeat' (first | (refine TL.isOp ?_; first | (refine TL.isBin ?_; refine TL.cmpG rfl rfl rfl rfl (fun hc => ?_) (fun hc => ?_) <;> (try (first | (exfalso; omega) | exact absurd rfl hc))) | (apply TL.ev; (case hd => rfl); (case h => (first | exact ev_simple rfl)))) | (refine T.is ?_; first | refine T.seq ?_ | refine T.region ?_ | refine T.cond_f rfl ?_ | refine T.exit ?_ | refine T.ret ?_) | (refine G.is ?_; first | refine G.next ?_ | refine G.blockE ?_ | refine G.thenE ?_) | refine TL.nil ?_)
    all_goals exact G.ret1 rfl rfl ⟨_, rfl, hF.ext, ⟨fun h => absurd h (by decide), fun ⟨y, hy, h⟩ => by
      obtain ⟨j, hj⟩ := List.mem_iff_getElem?.1 hy
      exact absurd h (hb j y (by rw [← hl]; exact (List.getElem?_eq_some_iff.1 hj).1) hj)⟩⟩
theorem containsLong (w : World) (n k : Nat) (A : Option Addr) (l : List IV) (hs : Sm 2 ivc w.heap w.heap.size A n k l) (hn : n ≤ 1048576) (hg : ∀ y ∈ l, GI w.heap y ∧ y.m.n ≤ 1099511627776) (b : Bool) (hb : b = true ↔ ∃ y ∈ l, big y) :
    Cl Tryz.prog 31 #[.slice A n k, .func (.func 32) #[] #[]] w (fun e w' => e = .returned (.bool b) ∧ Ext w w') := by
  refine enter Tryz.func31 rfl rfl rfl ?_
  have hF := Fr.refl w
  repeat' (first | (refine TL.isOp ?_; first | (refine TL.isCall ?_; refine TL.call rfl rfl ?_; first | (refine (indexLong _ n k A l hs hn hg).mono ?_; rintro _ wf ⟨r, rfl, hE, hr⟩; replace hF := hF.exts hE; clear hE; refine Back.mk ?_)) | (refine TL.isBin ?_; refine TL.cmpG rfl rfl rfl rfl (fun hc => ?_) (fun hc => ?_) <;> (try (first | (exfalso; omega) | exact absurd rfl hc))) | (apply TL.ev; (case hd => rfl); (case h => (first | exact ev_simple rfl)))) | (refine T.is ?_; first | refine T.seq ?_ | refine T.region ?_ | refine T.ret ?_) | (refine G.is ?_; first | refine G.next ?_) | refine TL.nil ?_)
  all_goals first
    | (have e : b = true := hb.2 (hr.1 (by omega)); subst e; exact G.ret1 rfl rfl ⟨rfl, hF.ext⟩)
    | (have e : b = false := by cases b with | false => rfl | true => exact absurd (hr.2 (hb.1 rfl)) (by omega)
       subst e; exact G.ret1 rfl rfl ⟨rfl, hF.ext⟩)
end Go.Proofs.YtlpheckjogphmaaGreat
namespace Go.Eng
open Go Go.RowKit
theorem op_in {R : Option Nat} {n : Nat} {P : Program} {ops : Array Oper} {Q : Exit → Act → World → Prop} {i : Nat} {a : Act} {w : World} {K K' : Act → World → Prop} (hno : NoOut Q) (hd : ∀ (j : Nat) (o : Oper), ops[j]? = some o → noDefer o = true) (hk : ∀ a w, K a w → K' a w)
    (h : wpOp P ops Q i K a w) : wpOpIn (wideR R) n P ops Q i K' a w := by
  unfold wpOp at h
  unfold wpOpIn
  cases ho : ops[i]? with
  | none => rw [ho] at h; exact hk _ _ h
  | some o =>
    rw [ho] at h
    dsimp only at h ⊢
    by_cases hw : Region.wanted o (yielded ops a.tmps) = true
    · rw [if_pos hw] at h ⊢
      rcases h with h | h
      · exact wp_in (hd i o ho) hk (fun _ _ _ h => h) (fun _ _ h => h) h
      · exact absurd h.2 hno.lets
    · rw [if_neg hw] at h ⊢
      exact ⟨fun _ _ => trivial, hk _ _ h⟩
theorem any_in {R : Option Nat} {n : Nat} {P : Program} {md : Region.Mode} {ops : Array Oper} {Q : Exit → Act → World → Prop} (hno : NoOut Q) (hd : ∀ (j : Nat) (o : Oper), ops[j]? = some o → noDefer o = true) : ∀ (fuel : Nat) (listed : Array Bool) (a : Act) (w : World), wpAny P md ops Q fuel listed a w → wpAnyIn (wideR R) n P md ops Q fuel listed a w
  | 0, _, _, _, h => h
  | fuel + 1, _, _, _, h => ⟨h.1, fun i hi => op_in hno hd (fun a w => any_in hno hd fuel _ a w) (h.2 i hi)⟩
section
variable {P : Program} {R : Option Nat} {N : Fm} {Q : Exit → Act → World → Prop} {σ : Store} {l : List Oper} {w : World}
theorem wpIn_region_tree {S : World → Prop} {id : Nat} {a : Act} {w : World} {l : List Oper} (f : Nat) (t : Rt) (hm : P.follows .mixedOrders = true) (hB : treeB l.toArray f t = true) (hnd : l.all noDefer = true) (hS : S (w.drewN 1))
    (h : wpTree P l.toArray (Only Q) S f t a (w.drewN 1)) : (Code.region id l.toArray true).wpIn (wideR R) 0 P Q a w := by
  simp only [treeB, Bool.and_eq_true, Nat.ble_eq] at hB
  obtain ⟨⟨hsel, hd⟩, hC⟩ := hB
  refine wpIn_mono (Q := Only Q) (wpIn_region_any hm (any_in (fun _ _ h => h.elim) (fun j o ho => ?_) _ _ _ _ (wpAny_of_F (S := S) (f := f) _ _ _ _ ?_))) ?_
  · rw [List.getElem?_toArray] at ho
    exact List.all_eq_true.1 hnd o (List.mem_of_getElem? ho)
  · exact (wpTree_both (P := P) (Q := Only Q) (S := S) (f := f) hsel (fun _ _ _ h => h.elim) t).1 _ _ _ _ ⟨by simp, fun j oj _ hl => (by rw [getD_replicate_false] at hl; cases hl)⟩ hd hC (.inr hS) h
  · intro e a w he
    cases e <;> first | exact he | exact he.elim
theorem TI.regionFI (S : World → Prop) {id : Nat} (f : Nat) (t : Rt) (hm : P.follows .mixedOrders = true) (hB : treeB l.toArray f t = true) (hnd : l.all noDefer = true) (hS : S (w.drewN 1)) (h : TF P N l Q S f t σ (w.drewN 1)) : TI P R N (.region id l.toArray true) Q σ w :=
  by
  unfold TF at h
  exact TI.mk fun _ a ha => wpIn_region_tree (S := S) f t hm hB hnd hS (h a ha)
end
section
variable {P : Program} {R : Option Nat} {N : Fm} {Q : Exit → Act → World → Prop} {σ : Store} {S : Nat → Prop} {w0 w : World} {L : List VB} {D : List DP} {l : List Oper}
theorem TI.regionFd {d : DP} (hF : Fr w0 w L (d :: D) S) (id : Nat) (f : Nat) (t : Rt) (hm : P.follows .mixedOrders = true) (hB : treeB l.toArray f t = true) (hnd : l.all noDefer = true)
    (h : ∀ w1 : World, Fr w0 w1 L (d :: D) S → TF P N l Q (fun w' => Fr w0 w' L D S) f t σ w1) : TI P R N (.region id l.toArray true) Q σ w :=
  TI.regionFI _ f t hm hB hnd ((hF.weak (List.Sublist.refl _) (allT allR)).exts (ext_drewN w 1)) (h _ (hF.exts (ext_drewN w 1)))
theorem TI.regionFr (hF : Fr w0 w L D S) (id : Nat) (f : Nat) (t : Rt) (hm : P.follows .mixedOrders = true) (hB : treeB l.toArray f t = true) (hnd : l.all noDefer = true)
    (h : ∀ w1 : World, Fr w0 w1 L D S → TF P N l Q (fun w' => Fr w0 w' L D S) f t σ w1) : TI P R N (.region id l.toArray true) Q σ w :=
  TI.regionFI _ f t hm hB hnd (hF.exts (ext_drewN w 1)) (h _ (hF.exts (ext_drewN w 1)))
end
end Go.Eng
set_option linter.unusedSectionVars false
namespace Go.Eng
open Go Go.Proofs Go.NatM Go.RowKit Go.Proofs.YtlpheckjogphmaaGreat
def rowsF (F : Nat → Nat → Int) (c i j : Nat) (k : Int × Int) : Int := if (0 ≤ k.1 ∧ 0 ≤ k.2 ∧ k.2 < (c : Int)) ∧ (k.1 < (i : Int) ∨ (k.1 = (i : Int) ∧ k.2 < (j : Int))) then F k.1.toNat k.2.toNat else 0
theorem rows_zero (F : Nat → Nat → Int) (c : Nat) (k : Int × Int) : rowsF F c 0 0 k = 0 := by unfold rowsF; rw [if_neg (by omega)]
theorem rows_step (F : Nat → Nat → Int) {c i j : Nat} (hj : j < c) (k : Int × Int) : updZ (rowsF F c i j) ((i : Int), (j : Int)) (F i j) k = rowsF F c i (j + 1) k := by
  obtain ⟨k1, k2⟩ := k
  unfold updZ
  by_cases h : ((i : Int), (j : Int)) = (k1, k2)
  · obtain ⟨rfl, rfl⟩ := Prod.mk.inj h
    rw [if_pos rfl]
    unfold rowsF
    rw [if_pos (by dsimp only; omega)]
    rfl
  · rw [if_neg h]
    have h' : ¬ (k1 = (i : Int) ∧ k2 = (j : Int)) := fun e => h (by rw [e.1, e.2])
    unfold rowsF
    dsimp only
    by_cases hw : (0 ≤ k1 ∧ 0 ≤ k2 ∧ k2 < (c : Int)) ∧ (k1 < (i : Int) ∨ (k1 = (i : Int) ∧ k2 < (j : Int)))
    · rw [if_pos hw, if_pos (by omega)]
    · rw [if_neg hw, if_neg (by omega)]
theorem rows_next (F : Nat → Nat → Int) (c i : Nat) (k : Int × Int) : rowsF F c i c k = rowsF F c (i + 1) 0 k := by
  unfold rowsF
  by_cases hw : (0 ≤ k.1 ∧ 0 ≤ k.2 ∧ k.2 < (c : Int)) ∧ (k.1 < (i : Int) ∨ (k.1 = (i : Int) ∧ k.2 < (c : Int)))
  · rw [if_pos hw, if_pos (by omega)]
  · rw [if_neg hw, if_neg (by omega)]
section
variable {S : Nat → Prop} {w0 w w' : World} {L : List VB} {D : List DP}
theorem lf_fpK {A : Option Addr} {n : Nat} (h : LF w A n) (k : Nat) (hk : fpA A n k) : w.heap.size ≤ k := by
  obtain ⟨h0, o, e⟩ := hk
  rcases h with h | ⟨b, hb, hs⟩
  · omega
  · rw [hb] at e; cases e; exact hs
theorem It.cxK {W W' : World} {B b : Nat} {t : TypeId} {cs : List Value} {x : MV} {r c K : Nat} {F : Nat → Nat → Int} (h : Vr W.heap b t cs ∧ LM W.heap x r c F K) (hc : Cx B W W') : Vr W'.heap b t cs ∧ LM W'.heap x r c F K :=
  ⟨by have h1 := h.1; unfold Vr at h1 ⊢; exact (hc.cells _ _ h1 rfl).trans h1, h.2.de hc.de⟩
theorem Fr.addBoxK (h : Fr w0 w L D S) (hE : Ext w w') {b : Nat} {t : TypeId} {cs : List Value} {x : MV} {r c K : Nat} {F : Nat → Nat → Int} (hb : w.heap.size ≤ b) (hV : Vr w'.heap b t cs) (hc : cs.all flagless = true) (g : LM w'.heap x r c F K) (hf : MF w x) : Fr w0 w' (⟨b, t, cs⟩ :: L) (dpLM x r c F K :: D) S := by
  refine (h.newGe hb hV hE).add _ (by unfold dpLM; exact g) fun v hv hk => ?_
  have hk' : fpA x.A x.n v.b := by unfold dpLM at hk; exact hk
  rcases List.mem_cons.1 hv with rfl | hv
  · exact g.s.fp_flag hk' hV hc
  · have h1 := (h.vars v hv).2.lt
    have h2 := mf_fp hf _ hk'
    omega
theorem sm_map {α : Type} {k : Nat} {f : α → List Value} {H : Array Obj} {B : Nat} {A : Option Addr} {n c m : Nat} {l : List α} {es : Array MapEntry} {kk : Nat} (hs : Sm k f H B A n c l) (hm : H[m]? = some (.map es kk)) : ¬ fpA A n m := fun ⟨h0, o, e⟩ => by
  have hl := hs.len
  have hp := hs.pos
  rcases hs.mem with h | ⟨b, o', e', _, hc⟩
  · omega
  · rw [e] at e'
    cases e'
    have hw := hs.wid l[0] (List.getElem_mem (by omega))
    have := hc 0 l[0] (List.getElem?_eq_getElem (by omega)) 0 (f l[0])[0] (List.getElem?_eq_getElem (by omega))
    unfold hcell at this
    rw [hm] at this
    cases this
theorem nf_lk {i : Nat} {l : List IV} {Z : Nat → Int} {K m : Nat} : ¬ (dpLK i l Z K).fp m := by unfold dpLK; exact fun h => h
theorem nf_lm {x : MV} {r c K m : Nat} {F : Nat → Nat → Int} (h : ¬ fpA x.A x.n m) : ¬ (dpLM x r c F K).fp m := by unfold dpLM; exact h
end
end Go.Eng
namespace Go.Proofs.YtlpheckjogphmaaGreat
open Go Go.Eng Go.Proofs Go.NatM Go.RowKit
instance : UFunc Tryz.prog 74 := ⟨⟨_, _, _, Tryz.underlying74⟩⟩
end Go.Proofs.YtlpheckjogphmaaGreat
namespace Go.Proofs.YtlpheckjogphmaaGreat
open Go Go.Eng Go.Proofs Go.NatM Go.RowKit
def RetMV (w : World) (r c : Nat) (F : Nat → Nat → Int) (K : Nat) (e : Ending) (w' : World) : Prop := ∃ (b : Nat) (l : List IV), e = .returned (.agg (mvc ⟨(r : Int), (c : Int), some ⟨b, 0, none⟩, r * c, r * c, l⟩).toArray) ∧ Vr w'.heap b 27 (l.flatMap ivc) ∧ l.length = r * c ∧
  (∀ i j, i < r → j < c → LI w'.heap (F i j) (l.getD (i * c + j) default) ∧ (l.getD (i * c + j) default).m.n ≤ K) ∧ Ext w w' ∧ w.heap.size ≤ b
set_option maxRecDepth 100000 in
theorem build_okV (w : World) (r c : Nat) (hr : r ≤ 64) (hc : c ≤ 64) (g : FuncId) (cap : List Value) (hg : IsFn Tryz.prog g) (F : Nat → Nat → Int) (K : Nat)
    (hF : ∀ (i j : Nat) (w1 : World), i < r → j < c → Ext w w1 → Cl Tryz.prog g ([Value.int .i64 (i : Int), Value.int .i64 (j : Int)] ++ cap).toArray w1 (RetZ w1 (F i j) K)) :
    Cl Tryz.prog 66 #[.int .i64 (r : Int), .int .i64 (c : Int), .func (.func g) #[] cap.toArray] w (RetMV w r c F K) := by
  have hm := mul64 hr hc
  refine enter Tryz.func66 rfl rfl rfl ?_
  repeat' (first | refine TL.ev (ev_simple rfl) rfl ?_ | refine TL.ev (ev_arN rfl rfl rfl (by omega)) rfl ?_ | (refine TL.makeX (z := [.bool false, .slice none 0 0]) rfl rfl rfl (by omega) (by omega) rfl rfl rfl (fun w3 b3 zs eb3 hzl hzn hV3 hE3 hz3 => ?_)) | (refine TL.alloc rfl (fun wa ba eba hVa hEa hza => ?_); have hla := box_lo (w0 := w) (by repeat (first | exact Ext.refl _ | (refine Ext.trans ?_ (by assumption)) | (apply ext_upd; assumption; rotate_left; omega))) eba) | (refine TL.storeVX rfl rfl rfl rfl (by refine ⟨?_, ?_⟩; (focus (repeat (first | assumption | (apply Vr.ext; assumption) | (apply Vr.updX; assumption; rotate_left; omega)))); rfl) (fun ws hVs hUs hzs => ?_)) | (refine TL.ev (ev_buildX rfl rfl) rfl ?_) | refine T.seq ?_ | refine T.region ?_ | refine TL.nil ?_ | refine T.block ?_ | refine G.next ?_)
  rename_i w6 b6 eb6 hV6 hE6 hz6 hl6
  have hne : b3 ≠ ba := by omega
  have hl3 : w.heap.size ≤ b3 := by omega
  have hV3s : Vr ws.heap b3 27 zs := (by repeat (first | assumption | (apply Vr.ext; assumption) | (apply Vr.updX; assumption; rotate_left; omega)))
  have hV6s : Vr ws.heap b6 24 (Value.agg #[.int .i64 0, .int .i64 0, .slice none 0 0]).cells.toList := (by repeat (first | assumption | (apply Vr.ext; assumption) | (apply Vr.updX; assumption; rotate_left; omega)))
  have hEs : Ext w ws := (by repeat (first | exact Ext.refl _ | (refine Ext.trans ?_ (by assumption)) | (apply ext_upd; assumption; rotate_left; omega)))
  have hne6 : b6 ≠ ba := by omega
  have hne63 : b6 ≠ b3 := by omega
  clear hV3 hVa hzs hEa
  have hgone : True := trivial
  refine T.loop (α := Nat × List IV × List Value) (fun x => [(1, .int .i64 (c : Int)), (2, .func (.func g) #[] cap.toArray), (6, .pointer (some ⟨b6, 0, none⟩)), (7, .pointer (some ⟨ba, 0, none⟩)), (17, .int .i64 (r : Int)), (18, .int .i64 (x.1 : Int))])
    (fun x w' => x.1 ≤ r ∧ x.2.1.length = x.1 * c ∧ x.2.2.length = (r * c - x.1 * c) * 2 ∧ x.2.2.all noU64 = true ∧ Ext w w' ∧ Vr w'.heap b3 27 (x.2.1.flatMap ivc ++ x.2.2) ∧ Vr w'.heap ba 24 [.int .i64 (r : Int), .int .i64 (c : Int), .slice (some ⟨b3, 0, none⟩) (x.1 * c) (r * c)] ∧
      (∃ cs6, Vr w'.heap b6 24 cs6 ∧ cs6.length = 3 ∧ cs6.all noU64 = true) ∧ ∀ q, q < x.2.1.length → LI w'.heap (F (q / c) (q % c)) (x.2.1.getD q default) ∧ (x.2.1.getD q default).m.n ≤ K)
    (fun x => r - x.1) (0, [], zs) (by repeat (first | exact Sub.nil _ | refine Sub.cons rfl ?_ | refine Sub.cons' rfl (int_congr (by omega)) ?_)) ⟨Nat.zero_le _, by simp, by simp; omega, hzn, hEs, by simpa using hV3s, by simpa using hVs, ⟨_, hV6s, rfl, rfl⟩, fun q hq => by simp at hq⟩ ?_
  rintro ⟨i, l, zz⟩ w2 ⟨hi, hl, hzzl, hzz, hE2, hV32, hV72, ⟨cs6, hV62, hl6', hn6⟩, hg2⟩
  dsimp only at hi hl hzzl hzz hE2 hV32 hV72 hV62 hg2 ⊢
  rcases Nat.lt_or_ge i r with hin | hin
  · repeat' (first | refine TL.ev (ev_simple rfl) rfl ?_ | (refine TL.cmpG rfl rfl rfl rfl (fun hc => ?_) (fun hc => ?_) <;> try (exfalso; omega)) | refine T.seq ?_ | refine T.region ?_ | refine TL.nil ?_ | refine T.block ?_ | refine T.cond_t rfl ?_ | refine T.skip ?_ | refine G.next ?_)
    refine T.loop (α := Nat × List IV × List Value) (fun x => [(1, .int .i64 (c : Int)), (2, .func (.func g) #[] cap.toArray), (6, .pointer (some ⟨b6, 0, none⟩)), (7, .pointer (some ⟨ba, 0, none⟩)), (8, .int .i64 (i : Int)), (17, .int .i64 (r : Int)), (18, .int .i64 (i : Int)), (21, .int .i64 (c : Int)), (22, .int .i64 (x.1 : Int))])
      (fun x w' => x.1 ≤ c ∧ x.2.1.length = i * c + x.1 ∧ x.2.2.length = (r * c - (i * c + x.1)) * 2 ∧ x.2.2.all noU64 = true ∧ Ext w w' ∧ Vr w'.heap b3 27 (x.2.1.flatMap ivc ++ x.2.2) ∧ Vr w'.heap ba 24 [.int .i64 (r : Int), .int .i64 (c : Int), .slice (some ⟨b3, 0, none⟩) (i * c + x.1) (r * c)] ∧
        (∃ cs6, Vr w'.heap b6 24 cs6 ∧ cs6.length = 3 ∧ cs6.all noU64 = true) ∧ ∀ q, q < x.2.1.length → LI w'.heap (F (q / c) (q % c)) (x.2.1.getD q default) ∧ (x.2.1.getD q default).m.n ≤ K)
      (fun x => c - x.1) (0, l, zz) (by repeat (first | exact Sub.nil _ | refine Sub.cons rfl ?_ | refine Sub.cons' rfl (int_congr (by omega)) ?_)) ⟨Nat.zero_le _, hl, hzzl, hzz, hE2, hV32, hV72, ⟨cs6, hV62, hl6', hn6⟩, hg2⟩ ?_
    clear hV32 hV72 hV62 hg2 hE2 hl hzzl hzz
    rintro ⟨j, l, zz⟩ w2 ⟨hj, hl, hzzl, hzz, hE2, hV32, hV72, ⟨cs6, hV62, hl6', hn6⟩, hg2⟩
    dsimp only at hj hl hzzl hzz hE2 hV32 hV72 hV62 hg2 ⊢
    rcases Nat.lt_or_ge j c with hjn | hjn
    · have hpl := place_lt hin hjn
      have hc0 : 0 < c := by omega
      repeat' (first | refine TL.ev (ev_simple rfl) rfl ?_ | (refine TL.cmpG rfl rfl rfl rfl (fun hc => ?_) (fun hc => ?_) <;> try (exfalso; omega)) | refine TL.ev (ev_arN rfl rfl rfl (by omega)) rfl ?_ | refine TF.nil ?_ | refine TF.e rfl ?_ | refine G.treeEnd rfl ?_ | refine TF.s rfl (fun _ hh => ev_simple rfl) rfl ?_ | refine TF.s rfl (fun _ hh => ev_fieldAddr rfl) rfl ?_ | refine T.regionXb b3 8 9 (.s 0 (.s 1 (.s 2 (.s 3 (.s 4 (.e 5 (.e 6 (.e 7 (.s 8 (.e 9 .nil)))))))))) mixed (by kernel_rfl) (fun wr hzr hEr => ?_) | (refine G.tree rfl (by repeat (first | exact Exb.refl _ _ | (refine Exb.ext ?_ (by assumption)) | (refine Exb.upd ?_ (by assumption)))) ?_) | (refine TF.s rfl (fun _ hh => ev_loadVX rfl ⟨Vr.exb hh hV72 (Ne.symm hne), rfl⟩) rfl ?_) | (refine TL.callV (vs := [.int .i64 (i : Int), .int .i64 (j : Int)]) (cap := cap) hg rfl rfl rfl ?_; refine (hF i j _ hin hjn (by repeat (first | exact Ext.refl _ | (refine Ext.trans ?_ (by assumption)) | (apply ext_upd; assumption; rotate_left; omega)))).mono ?_; rintro _ wf ⟨x, rfl, hLx, hEf, hKx⟩; refine Back.mk ?_; have hzf := hEf.size) | (refine TL.buildX1 (f := ivc) (u := x) rfl rfl rfl rfl rfl rfl rfl (fun wn bn ebn hVn hSn hEn hzn' => ?_)) | (refine TL.appendX (f := ivc) (u := x) (l := l) (zs := zz) (fun _ => rfl) rfl rfl rfl hSn (by repeat (first | assumption | (apply Vr.ext; assumption) | (apply Vr.updX; assumption; rotate_left; omega))) (fun _ _ => rfl) hl (by omega) (by omega) (fun wp hVp hUp hzp => ?_)) | (refine TL.storeX rfl rfl rfl rfl (by refine ⟨?_, ?_⟩; (focus (repeat (first | assumption | (apply Vr.ext; assumption) | (apply Vr.updX; assumption; rotate_left; omega)))); rfl) (fun ws hVs hUs hzs => ?_)) | refine T.seq ?_ | refine T.region ?_ | refine TL.nil ?_ | refine T.block ?_ | refine T.cond_t rfl ?_ | refine T.skip ?_ | refine G.next ?_ | refine G.blockN ?_ | refine G.only ?_)
      have hEn' : ∀ z y, LI w2.heap z y → LI wn.heap z y := fun z y h => by repeat (first | assumption | (apply LI.ext; assumption))
      have hV3n : Vr wn.heap b3 27 (l.flatMap ivc ++ zz) := (by repeat (first | assumption | (apply Vr.ext; assumption) | (apply Vr.updX; assumption; rotate_left; omega)))
      have hV7p : Vr wp.heap ba 24 [.int .i64 (r : Int), .int .i64 (c : Int), .slice (some ⟨b3, 0, none⟩) (i * c + j) (r * c)] := (by repeat (first | assumption | (apply Vr.ext; assumption) | (apply Vr.updX; assumption; rotate_left; omega)))
      have keep : ∀ z y, LI wn.heap z y → LI ws.heap z y := fun z y h => LI.updV hUs hV7p rfl (LI.updV hUp hV3n (ivc_all _ _ hzz) h)
      have hV6e : Vr ws.heap b6 24 cs6 := (by repeat (first | assumption | (apply Vr.ext; assumption) | (apply Vr.updX; assumption; rotate_left; omega)))
      have hV3e := Vr.updX hUs hVp hne
      have hlq : (l ++ [x]).length = i * c + (j + 1) := by simp; omega
      have hqd : (i * c + j) / c = i := by rw [Nat.mul_comm, Nat.mul_add_div hc0, Nat.div_eq_of_lt hjn, Nat.add_zero]
      have hqm : (i * c + j) % c = j := by rw [Nat.mul_comm, Nat.mul_add_mod, Nat.mod_eq_of_lt hjn]
      refine G.again (j + 1, l ++ [x], zz.drop 2) (by repeat (first | exact Sub.nil _ | refine Sub.cons rfl ?_ | refine Sub.cons' rfl (int_congr (by omega)) ?_)) ⟨by dsimp only; omega, hlq, by simp; omega, ?_, (by repeat (first | exact Ext.refl _ | (refine Ext.trans ?_ (by assumption)) | (apply ext_upd; assumption; rotate_left; omega))), hV3e, hVs, ⟨cs6, hV6e, hl6', hn6⟩, fun q hq => ?_⟩ (by dsimp only; omega)
      · rw [List.all_eq_true] at hzz ⊢
        exact fun v hv => hzz v (List.mem_of_mem_drop hv)
      · dsimp only at hq ⊢
        rw [getD_snoc hq]
        split
        · rename_i h1
          exact ⟨keep _ _ (hEn' _ _ (hg2 q h1).1), (hg2 q h1).2⟩
        · rename_i h1
          obtain rfl : q = i * c + j := by rw [hlq] at hq; omega
          rw [hqd, hqm]
          exact ⟨keep _ _ (hLx.ext hEn), hKx⟩
    · obtain rfl : j = c := by omega
      repeat' (first | refine TL.ev (ev_simple rfl) rfl ?_ | (refine TL.cmpG rfl rfl rfl rfl (fun hc => ?_) (fun hc => ?_) <;> try (exfalso; omega)) | refine TL.ev (ev_arN rfl rfl rfl (by omega)) rfl ?_ | refine T.seq ?_ | refine T.region ?_ | refine TL.nil ?_ | refine T.cond_f rfl ?_ | refine T.exit ?_ | refine G.next ?_ | refine G.blockN ?_ | refine G.blockE ?_ | refine G.thenE ?_)
      refine G.again (i + 1, l, zz) (by repeat (first | exact Sub.nil _ | refine Sub.cons rfl ?_ | refine Sub.cons' rfl (int_congr (by omega)) ?_)) ⟨by dsimp only; omega, by dsimp only; rw [hl, Nat.add_mul, Nat.one_mul], by dsimp only; rw [hzzl, Nat.add_mul, Nat.one_mul], hzz, hE2, hV32, by dsimp only; rw [Nat.add_mul, Nat.one_mul]; exact hV72, ⟨cs6, hV62, hl6', hn6⟩, hg2⟩ (by dsimp only; omega)
  · obtain rfl : i = r := by omega
    have hzz0 : zz = [] := List.eq_nil_of_length_eq_zero (by rw [hzzl, Nat.sub_self, Nat.zero_mul])
    subst hzz0
    match cs6, hl6', hV62, hn6 with
    | [y0, y1, y2], _, hV62, hn6 =>
      repeat' (first | (refine TL.cmpG rfl rfl rfl rfl (fun hc => ?_) (fun hc => ?_) <;> try (exfalso; omega)) | (refine TL.ev (ev_loadVAX rfl (by refine ⟨?_, ?_⟩; (focus (repeat (first | assumption | (apply Vr.ext; assumption) | (apply Vr.updX; assumption; rotate_left; omega)))); rfl)) rfl ?_) | (refine TL.storeVX rfl rfl rfl rfl (by refine ⟨?_, ?_⟩; (focus (repeat (first | assumption | (apply Vr.ext; assumption) | (apply Vr.updX; assumption; rotate_left; omega)))); rfl) (fun ws hVs hUs hzs => ?_)) | refine T.seq ?_ | refine T.region ?_ | refine TL.nil ?_ | refine T.cond_f rfl ?_ | refine T.exit ?_ | refine T.ret ?_ | refine G.next ?_ | refine G.blockE ?_ | refine G.thenE ?_)
      have hV3e : Vr ws.heap b3 27 (l.flatMap ivc ++ []) := Vr.updX hUs hV32 (Ne.symm hne63)
      rw [List.append_nil] at hV3e
      refine G.retC1 rfl rfl (held_agg hVs rfl) ⟨b3, l, rfl, hV3e, hl, fun a b ha hb => ?_, (by repeat (first | exact Ext.refl _ | (refine Ext.trans ?_ (by assumption)) | (apply ext_upd; assumption; rotate_left; omega))), hl3⟩
      have hq := place_lt ha hb
      obtain ⟨g1, g2⟩ := hg2 (a * c + b) (by omega)
      rw [show (a * c + b) / c = a by rw [Nat.mul_comm, Nat.mul_add_div (by omega), Nat.div_eq_of_lt hb, Nat.add_zero], show (a * c + b) % c = b by rw [Nat.mul_comm, Nat.mul_add_mod, Nat.mod_eq_of_lt hb]] at g1
      exact ⟨LI.updV hUs hV62 hn6 g1, g2⟩
end Go.Proofs.YtlpheckjogphmaaGreat
namespace Go.Proofs.YtlpheckjogphmaaGreat
open Go Go.Eng Go.Proofs Go.NatM Go.RowKit
theorem diag0_ok (w : World) (p k : Nat) (A : Option Addr) (hp : Vr w.heap p 22 [.slice A 0 k]) (i j : Nat) (hi : i ≤ 64) (hj : j ≤ 64) :
    Cl Tryz.prog 80 ([Value.int .i64 (i : Int), Value.int .i64 (j : Int)] ++ [Value.pointer (some ⟨p, 0, none⟩)]).toArray w (RetZ w 0 0) := by
  refine enter Tryz.func80 rfl rfl rfl ?_
  have hF := Fr.refl w
  have hin : ¬ i < 0 := Nat.not_lt_zero _
  by_cases hij : i = j
  · repeat' (first | (refine TL.isOp ?_; first | (refine TL.isG ?_; first | refine TL.grun rfl rfl rfl ?_) | (refine TL.isBin ?_; refine TL.cmpG rfl rfl rfl rfl (fun hc => ?_) (fun hc => ?_) <;> (try (first | (exfalso; omega) | exact absurd rfl hc))) | (apply TL.ev; (case hd => rfl); (case h => (first | exact ev_simple rfl | (apply Ev.isLoad; first | exact ev_loadV rfl (hp.ext hF.ext) rfl) | exact ev_len rfl | exact ev_buildX rfl rfl))) | (refine TL.storeAFr hF rfl rfl rfl rfl (by refine ⟨?_, ?_⟩; (focus (repeat (first | apply SetV.head | apply SetV.tail))); rfl) rfl ?_; clear hF; intro ws hF) | (refine TL.allocFr hF (d := 5) rfl rfl ?_; clear hF; intro w5 b5 hF)) | (refine T.is ?_; first | refine T.seq ?_ | refine T.region ?_ | refine T.cond_f rfl ?_ | refine T.ret ?_ | refine T.skip ?_) | (refine G.is ?_; first | refine G.next ?_) | refine TL.nil ?_)
    all_goals exact G.retC1 rfl rfl (held_agg (hF.var (by repeat (first | exact InV.head | apply InV.tail))) rfl) ⟨⟨false, ⟨none, 0, 0, []⟩⟩, rfl, LI.zero _, hF.ext, Nat.zero_le _⟩
  · repeat' (first | (refine TL.isOp ?_; first | (refine TL.isG ?_; first | refine TL.gskip rfl rfl rfl rfl ?_) | (refine TL.isBin ?_; refine TL.cmpG rfl rfl rfl rfl (fun hc => ?_) (fun hc => ?_) <;> (try (first | (exfalso; omega) | exact absurd rfl hc))) | (apply TL.ev; (case hd => rfl); (case h => (first | exact ev_simple rfl | exact ev_buildX rfl rfl))) | (refine TL.storeAFr hF rfl rfl rfl rfl (by refine ⟨?_, ?_⟩; (focus (repeat (first | apply SetV.head | apply SetV.tail))); rfl) rfl ?_; clear hF; intro ws hF) | (refine TL.allocFr hF (d := 5) rfl rfl ?_; clear hF; intro w5 b5 hF)) | (refine T.is ?_; first | refine T.seq ?_ | refine T.region ?_ | refine T.cond_f rfl ?_ | refine T.ret ?_ | refine T.skip ?_) | (refine G.is ?_; first | refine G.next ?_) | refine TL.nil ?_)
    all_goals exact G.retC1 rfl rfl (held_agg (hF.var (by repeat (first | exact InV.head | apply InV.tail))) rfl) ⟨⟨false, ⟨none, 0, 0, []⟩⟩, rfl, LI.zero _, hF.ext, Nat.zero_le _⟩
def RetZV (w : World) (r c : Nat) (e : Ending) (w' : World) : Prop := ∃ (b : Nat) (l : List IV), e = .returned (.tuple #[.agg #[.int .i64 (r : Int), .int .i64 (c : Int), .slice (some ⟨b, 0, none⟩) (r * c) (r * c)], .int .i64 0]) ∧ Vr w'.heap b 27 (l.flatMap ivc) ∧ l.length = r * c ∧ LsK (r * c) l (fun _ => 0) 0 w'.heap ∧ Ext w w' ∧ w.heap.size ≤ b
theorem lk_of {H : Array Obj} {r c : Nat} {l : List IV} (h : ∀ i j, i < r → j < c → LI H 0 (l.getD (i * c + j) default) ∧ (l.getD (i * c + j) default).m.n ≤ 0) : LsK (r * c) l (fun _ => 0) 0 H := fun q hq => by
  have hc : 0 < c := Nat.pos_of_ne_zero fun e => by rw [e, Nat.mul_zero] at hq; omega
  have h1 : q / c < r := (Nat.div_lt_iff_lt_mul hc).2 hq
  have := h (q / c) (q % c) h1 (Nat.mod_lt _ hc)
  rwa [Nat.mul_comm, Nat.div_add_mod] at this
set_option maxRecDepth 100000 in
theorem mdiag0V (w : World) (r c : Nat) (hr : r ≤ 64) (hcc : c ≤ 64) : Cl Tryz.prog 68 #[.int .i64 (r : Int), .int .i64 (c : Int), .slice none 0 0] w (RetZV w r c) := by
  have hs1 := fun (w : World) => (side_ok w.heap (r : Int) true (decide_eq_true (by omega))).cl
  have hs2 := fun (w : World) => (side_ok w.heap (c : Int) true (decide_eq_true (by omega))).cl
  refine enter Tryz.func68 rfl rfl rfl ?_
  have hF := Fr.refl w
  repeat' (first | (refine TL.isOp ?_; first | (refine TL.isG ?_; first | refine TL.grun rfl rfl rfl ?_) | (refine TL.isCall ?_; refine TL.call rfl rfl ?_; first | (refine (hs1 _).mono ?_; rintro _ wc ⟨rfl, hE⟩; replace hF := hF.exts hE.ext; clear hE; refine Back.mk ?_) | (refine (hs2 _).mono ?_; rintro _ wc ⟨rfl, hE⟩; replace hF := hF.exts hE.ext; clear hE; refine Back.mk ?_) | (refine (build_okV _ r c hr hcc 80 [.pointer (some ⟨b5, 0, none⟩)] inferInstance (fun _ _ => 0) 0 (fun i j w1 hi hj hE1 => diag0_ok w1 b5 0 none ((hF.var (by repeat (first | exact InV.head | apply InV.tail))).ext hE1) i j (by omega) (by omega))).mono ?_; rintro _ wz ⟨bz, lz, rfl, hVz, hlz, hgz, hE, hbz⟩; have hbz2 := Nat.le_trans hF.exs.size hbz; replace hF := Fr.addLK (hF.newGe hbz hVz hE) (lk_of hgz); clear hE hgz hVz; refine Back.mk ?_)) | (refine TL.isBin ?_; refine TL.cmpG rfl rfl rfl rfl (fun hc => ?_) (fun hc => ?_) <;> (try (first | (exfalso; omega) | exact absurd rfl hc))) | (apply TL.ev; (case hd => rfl); (case h => (first | exact ev_simple rfl | (apply Ev.isLoad; first | exact ev_loadFr hF rfl (by refine ⟨?_, ?_⟩; (focus (repeat (first | exact InV.head | apply InV.tail))); rfl)) | exact ev_len rfl | exact ev_makeFunc rfl | exact ev_min2 rfl rfl))) | (refine TL.storeAFr hF rfl rfl rfl rfl (by refine ⟨?_, ?_⟩; (focus (repeat (first | apply SetV.head | apply SetV.tail))); rfl) rfl ?_; clear hF; intro ws hF) | (refine TL.boxFr hF (d := 5) (v := .slice none 0 0) rfl rfl ?_; clear hF; intro w5 b5 hF) | (refine TL.allocFr hF (d := 6) rfl rfl ?_; clear hF; intro w6 b6 hF)) | (refine T.is ?_; first | refine T.seq ?_ | refine T.region ?_ | refine T.cond_f rfl ?_ | refine T.ret ?_ | refine T.skip ?_) | (refine G.is ?_; first | refine G.next ?_) | refine TL.nil ?_)
  exact G.retC2 rfl rfl rfl (held_agg (hF.var (b := b6) (by repeat (first | exact InV.head | apply InV.tail))) rfl) ⟨bz, lz, rfl, hF.var (b := bz) (by repeat (first | exact InV.head | apply InV.tail)), hlz, Fr.lk hF (i := r * c) (l := lz) (by repeat (first | exact memH | apply memT)), hF.ext, hbz2⟩
theorem mzeroV (w : World) (r c : Nat) (hr : r ≤ 64) (hcc : c ≤ 64) : Cl Tryz.prog 45 #[.int .i64 (r : Int), .int .i64 (c : Int)] w (RetZV w r c) := by
  have hd := fun w => mdiag0V w r c hr hcc
  refine enter Tryz.func45 rfl rfl rfl ?_
  have hF := Fr.refl w
  repeat' (first | (refine TL.isOp ?_; first | (refine TL.isCall ?_; refine TL.call rfl rfl ?_; first | (refine (hd _).mono ?_; rintro _ wz ⟨bz, lz, rfl, hVz, hlz, hgz, hE, hbz⟩; have hbz2 := Nat.le_trans hF.exs.size hbz; replace hF := Fr.addLK (hF.newGe hbz hVz hE) hgz; clear hE hgz hVz; refine Back.mk ?_)) | (apply TL.ev; (case hd => rfl); (case h => (first | exact ev_simple rfl))) | (refine TL.storeAFr hF rfl rfl rfl rfl (by refine ⟨?_, ?_⟩; (focus (repeat (first | apply SetV.head | apply SetV.tail))); rfl) rfl ?_; clear hF; intro ws hF) | (refine TL.allocFr hF (d := 4) rfl rfl ?_; clear hF; intro w4 b4 hF)) | (refine T.is ?_; first | refine T.seq ?_ | refine T.region ?_ | refine T.ret ?_) | (refine G.is ?_; first | refine G.next ?_) | refine TL.nil ?_)
  exact G.retC2 rfl rfl rfl (held_agg (hF.var (b := b4) (by repeat (first | exact InV.head | apply InV.tail))) rfl) ⟨bz, lz, rfl, hF.var (b := bz) (by repeat (first | exact InV.head | apply InV.tail)), hlz, Fr.lk hF (i := r * c) (l := lz) (by repeat (first | exact memH | apply memT)), hF.ext, hbz2⟩
end Go.Proofs.YtlpheckjogphmaaGreat
set_option linter.unusedSectionVars false
namespace Go.Eng
open Go Go.Proofs Go.NatM Go.RowKit Go.Proofs.YtlpheckjogphmaaGreat
theorem lk_put {H : Array Obj} {n K idx : Nat} {l : List IV} {Z : Nat → Int} {x : IV} {z : Int} (h : LsK n l Z K H) (hl : l.length = n) (hi : idx < n) (hx : LI H z x) (hn : x.m.n ≤ K) : LsK n (l.set idx x) (fun q => if q = idx then z else Z q) K H := fun q hq => by
  by_cases e : q = idx
  · subst e
    have : (l.set q x).getD q default = x := by simp [List.getD, show q < l.length by omega]
    rw [this]
    dsimp only
    rw [if_pos rfl]
    exact ⟨hx, hn⟩
  · have : (l.set idx x).getD q default = l.getD q default := by simp only [List.getD]; rw [List.getElem?_set_ne (fun h => e h.symm)]
    rw [this]
    dsimp only
    rw [if_neg e]
    exact h q hq
def InRC (r c : Nat) (Z : ZF) : Prop := ∀ k, Z k ≠ 0 → (0 ≤ k.1 ∧ k.1 < (r : Int)) ∧ (0 ≤ k.2 ∧ k.2 < (c : Int))
def plq (c q : Nat) : Int × Int := (((q / c : Nat) : Int), ((q % c : Nat) : Int))
theorem plq_iff {c a b q : Nat} (hb : b < c) : (((a : Nat) : Int), ((b : Nat) : Int)) = plq c q ↔ q = a * c + b := by
  unfold plq
  constructor
  · intro h
    have h1 := (Prod.mk.inj h).1
    have h2 := (Prod.mk.inj h).2
    have h3 := Nat.div_add_mod q c
    have h4 : a = q / c := by omega
    have h5 : b = q % c := by omega
    rw [h4, h5, Nat.mul_comm]; omega
  · rintro rfl
    have h1 : (a * c + b) / c = a := by rw [Nat.mul_comm, Nat.mul_add_div (by omega), Nat.div_eq_of_lt hb, Nat.add_zero]
    have h2 : (a * c + b) % c = b := by rw [Nat.mul_comm, Nat.mul_add_mod, Nat.mod_eq_of_lt hb]
    rw [h1, h2]
theorem den_step {ls : GL} {N i c a b : Nat} {Z : ZF} {y : IV} (h : PlF ls Z N) (hp : ls[i]? = some (((a : Int), (b : Int)), y)) (hb : b < c) : (fun q => if q = a * c + b then ival y else zv (ls.take i) (plq c q)) = fun q => zv (ls.take (i + 1)) (plq c q) := funext fun q => by
  have ht : ls.take (i + 1) = ls.take i ++ [(((a : Int), (b : Int)), y)] := by rw [List.take_add_one, hp]; rfl
  have hno : ((a : Int), (b : Int)) ∉ (ls.take i).map (·.1) := fun hm => by
    have hn := h.nd
    have e : ls = ls.take i ++ [(((a : Int), (b : Int)), y)] ++ ls.drop (i + 1) := by rw [← ht, List.take_append_drop]
    rw [e, List.map_append, List.map_append] at hn
    have h1 := (List.nodup_append.1 hn).1
    have h2 := (List.nodup_append.1 h1).2.2
    exact h2 _ hm _ (by simp) rfl
  rw [ht, zv_snoc hno]
  dsimp only
  by_cases hq : q = a * c + b
  · rw [if_pos hq, if_pos ((plq_iff hb).2 hq)]
  · rw [if_neg hq, if_neg fun e => hq ((plq_iff hb).1 e)]
end Go.Eng
namespace Go.Proofs.YtlpheckjogphmaaGreat
open Go Go.Eng Go.Proofs Go.NatM Go.RowKit
def RetDn (w : World) (r c : Nat) (Z : ZF) (e : Ending) (w' : World) : Prop := ∃ x : MV, e = .returned (.tuple #[.agg (mvc x).toArray, .int .i64 0]) ∧ LM w'.heap x r c (fun i j => Z ((i : Int), (j : Int))) 16384 ∧ Ext w w' ∧ MF w x
set_option maxRecDepth 100000 in
theorem denseS (w : World) (g m r c N : Nat) (Z : ZF) (hG : GZ w.heap g m r c Z N) (hi : InRC r c Z) (hr : r ≤ 64) (hcc : c ≤ 64) (hN : N ≤ 4096) :
    Cl Tryz.prog 15 #[.pointer (some ⟨g, 0, none⟩)] w (RetDn w r c Z) := by
  have hpl := fun w1 (hE : Ext w w1) => placesS w1 g m r c N Z (hG.ext hE) hN
  obtain ⟨l, hGr, hz, hlN, hv⟩ := hG
  have hF := Gr.fr hGr fun _ => False
  clear hGr
  have hrc := mul64 hr hcc
  refine enter Tryz.func15 rfl rfl rfl ?_
  repeat' (first | (refine TL.isOp ?_; first | (refine TL.isG ?_; first | refine TL.grun rfl rfl rfl ?_) | (refine TL.isBin ?_; refine TL.cmpG rfl rfl rfl rfl (fun hc => ?_) (fun hc => ?_) <;> (try (first | (exfalso; omega) | exact absurd rfl hc))) | (apply TL.ev; (case hd => rfl); (case h => (first | exact ev_simple rfl | (apply Ev.isBin; first | exact ev_eqlP rfl rfl rfl) | (apply Ev.isLoad; first | exact ev_loadCb hF rfl (by repeat (first | exact memH | apply memT)) rfl) | exact ev_fieldAddr rfl | exact ev_nilCheck rfl))) | (refine TL.allocFr hF (d := 2) rfl rfl ?_; clear hF; intro w2 b2 hF)) | (refine T.is ?_; first | refine T.seqM 5 rfl ?_ | refine T.region ?_ | refine T.cond_f rfl ?_ | refine T.skip ?_) | (refine G.is ?_; first | refine G.next ?_) | refine TL.nil ?_)
  refine T.cut (α := Nat × List IV × Nat) (fun x => [(0, .pointer (some ⟨g, 0, none⟩)), (2, .pointer (some ⟨b2, 0, none⟩)), (4, .pointer (some ⟨x.2.2, 0, none⟩)), (5, .int .i64 0)])
    (fun x w' => x.2.1.length = r * c ∧ w.heap.size ≤ x.1 ∧ Fr w w' [⟨x.2.2, 24, [.int .i64 (r : Int), .int .i64 (c : Int), .slice (some ⟨x.1, 0, none⟩) (r * c) (r * c)]⟩, ⟨x.1, 27, x.2.1.flatMap ivc⟩, ⟨b2, 24, [.int .i64 0, .int .i64 0, .slice none 0 0]⟩] [dpLK (r * c) x.2.1 (fun _ => 0) 0, dpCb g 84 (grc r c m)]) ?_ ?_
  · repeat' (first | (refine TL.isOp ?_; first | (refine TL.isCall ?_; refine TL.call rfl rfl ?_; first | (refine (mzeroV _ r c hr hcc).mono ?_; rintro _ wz ⟨bz, lz, rfl, hVz, hlz, hgz, hE, hbz⟩; have hbz2 := Nat.le_trans hF.exs.size hbz; replace hF := Fr.addLK (hF.newGe hbz hVz hE) hgz; clear hE hgz hVz; refine Back.mk ?_)) | (refine TL.storeAFr hF rfl rfl rfl rfl (by refine ⟨?_, ?_⟩; (focus (repeat (first | apply SetV.head | apply SetV.tail))); rfl) rfl ?_; clear hF; intro ws hF) | (refine TL.allocFr hF (d := 4) rfl rfl ?_; clear hF; intro w4 b4 hF)) | (refine TF.is ?_; first | refine TF.nil ?_ | refine TF.e rfl ?_ | refine TF.alt ?_ ?_ | (refine TF.pick rfl ?_; first | (apply TFo.ev; (case hd => rfl); (case h => (intro wh hF; first | exact ev_simple rfl | (apply Ev.isLoad; first | exact ev_loadCb hF rfl (by repeat (first | exact memH | apply memT)) rfl) | exact ev_fieldAddr rfl | exact ev_nilCheck rfl))))) | (refine T.is ?_; first | (refine T.regionFr hF 5 15 (.s 0 (.s 1 (.s 2 (.s 3 (.s 4 (.s 5 (.s 6 (.s 7 (.alt (.e 8 (.s 9 (.s 10 (.s 11 (.e 12 (.e 13 (.s 14 .nil))))))) (.e 12 (.e 8 (.s 9 (.s 10 (.s 11 (.e 13 (.s 14 .nil)))))))))))))))) mixed (by kernel_rfl) ?_; clear hF; intro wr hF)) | (refine G.is ?_; first | refine G.only ?_ | refine G.tree rfl (by first | exact hF | exact hF.weak (List.sublist_append_right _ _) (by repeat (first | exact allR | apply allT)) | exact hF.weak (by repeat (first | exact List.Sublist.refl _ | apply List.Sublist.cons)) (by repeat (first | exact allR | apply allT)) | exact hF.weak (by repeat (first | exact List.Sublist.refl _ | apply List.Sublist.cons)) (by repeat (first | exact allN | refine allH (by repeat (first | exact memH | apply memT)) ?_))) ?_) | refine TL.nil ?_)
    all_goals exact G.cut (bz, lz, b4) (by repeat (first | exact Sub.nil _ | refine Sub.cons rfl ?_ | refine Sub.cons' rfl (int_congr (by omega)) ?_)) ⟨hlz, hbz2, by first | exact hF.weak (List.Sublist.refl _) (allH (by repeat (first | exact memH | apply memT)) (allH (by repeat (first | exact memH | apply memT)) allN)) | exact hF.swap.weak (List.Sublist.refl _) (allH (by repeat (first | exact memH | apply memT)) (allH (by repeat (first | exact memH | apply memT)) allN))⟩
  clear hF
  rintro ⟨bz, lz, b4⟩ w1 ⟨hlz, hbz2, hF⟩
  dsimp only at hlz hbz2 hF ⊢
  repeat' (first | (refine TL.isOp ?_; first | (refine TL.isCall ?_; refine TL.call rfl rfl ?_; first | (refine (hpl _ hF.ext).mono ?_; rintro _ wy ⟨l1, b1, c1, rfl, hE, hb1, hs1, hv1, hp1⟩; replace hF := hF.addPl hE hb1 hs1 hv1; clear hE hs1 hv1 hb1; refine Back.mk ?_)) | (apply TL.ev; (case hd => rfl); (case h => (first | exact ev_simple rfl | exact ev_len rfl)))) | (refine T.is ?_; first | refine T.seq ?_ | refine T.region ?_ | refine T.block ?_) | (refine G.is ?_; first | refine G.next ?_) | refine TL.nil ?_)
  have hK0 : LsK (r * c) lz (fun q => zv (l1.take 0) (plq c q)) 16384 _ := fun q hq => ⟨((Fr.lk hF (i := r * c) (l := lz) (by repeat (first | exact memH | apply memT))) q hq).1, Nat.le_trans ((Fr.lk hF (i := r * c) (l := lz) (by repeat (first | exact memH | apply memT))) q hq).2 (Nat.zero_le _)⟩
  replace hF := (Fr.addLK hF hK0).swap
  clear hK0
  refine T.loop (α := Nat × List IV) (fun x => [(0, .pointer (some ⟨g, 0, none⟩)), (2, .pointer (some ⟨b2, 0, none⟩)), (4, .pointer (some ⟨b4, 0, none⟩)), (5, .int .i64 0), (37, .slice (some ⟨b1, 0, none⟩) N c1), (38, .int .i64 (N : Int)), (39, .int .i64 (x.1 : Int))])
    (fun x w' => x.1 ≤ N ∧ x.2.length = r * c ∧ Fr w w' [⟨bz, 27, x.2.flatMap ivc⟩, ⟨b4, 24, [.int .i64 (r : Int), .int .i64 (c : Int), .slice (some ⟨bz, 0, none⟩) (r * c) (r * c)]⟩, ⟨b2, 24, [.int .i64 0, .int .i64 0, .slice none 0 0]⟩] [dpLK (r * c) x.2 (fun q => zv (l1.take x.1) (plq c q)) 16384, dpGv l1, dpSmG 4 plc (some ⟨b1, 0, none⟩) N c1 l1, dpCb g 84 (grc r c m)]) (fun x => N - x.1) (0, lz) (by repeat (first | exact Sub.nil _ | refine Sub.cons rfl ?_ | refine Sub.cons' rfl (int_congr (by omega)) ?_)) ⟨Nat.zero_le _, hlz, hF.weak (List.Sublist.refl _) (allH (by repeat (first | exact memH | apply memT)) (allH (by repeat (first | exact memH | apply memT)) (allH (by repeat (first | exact memH | apply memT)) (allH (by repeat (first | exact memH | apply memT)) allN))))⟩ ?_
  clear hF hlz lz
  rintro ⟨i, lz⟩ w3 ⟨hiN, hlz, hF⟩
  dsimp only at hiN hlz hF ⊢
  rcases Nat.lt_or_ge i N with hin | hin
  · obtain ⟨p, hp⟩ : ∃ p, l1[i]? = some p := ⟨_, List.getElem?_eq_getElem (by rw [hp1.len]; exact hin)⟩
    have hgp := Fr.gv (l := l1) hF (by repeat (first | exact memH | apply memT)) p (List.mem_of_getElem? hp)
    have hZp : Z p.1 ≠ 0 := by
      rw [← hp1.val, zv_mem hp1.nd (List.mem_of_getElem? hp)]
      exact hp1.nz p (List.mem_of_getElem? hp)
    have hrg := hi p.1 hZp
    obtain ⟨⟨p1, p2⟩, ⟨ys, ⟨yA, yn, yc, yl⟩⟩⟩ := p
    dsimp only at hrg hgp
    obtain ⟨a, rfl⟩ : ∃ a : Nat, p1 = (a : Int) := ⟨p1.toNat, by omega⟩
    obtain ⟨b, rfl⟩ : ∃ b : Nat, p2 = (b : Int) := ⟨p2.toNat, by omega⟩
    have har : a < r := by omega
    have hbc : b < c := by omega
    have hidx := place_lt har hbc
    have hac : a * c ≤ 4096 := by omega
    have hil : a * c + b < lz.length := by omega
    replace hF := Fr.addLI hF hgp.1
    have hgn := hgp.2
    clear hgp hZp hrg
    repeat' (first | (refine TL.isOp ?_; first | (refine TL.isBin ?_; refine TL.cmpG rfl rfl rfl rfl (fun hc => ?_) (fun hc => ?_) <;> (try (first | (exfalso; omega) | exact absurd rfl hc))) | (apply TL.ev; (case hd => rfl); (case h => (first | exact ev_simple rfl | (apply Ev.isBin; first | exact ev_arN rfl rfl rfl (by omega)) | (apply Ev.isLoad; first | exact ev_loadMc [.int .i64 (a : Int), .int .i64 (b : Int), .bool ys, .slice yA yn yc] rfl (Fr.smG hF (l := l1) (by repeat (first | exact memH | apply memT))) hp rfl) | exact ev_indexM rfl rfl hin (Fr.smG hF (l := l1) (by repeat (first | exact memH | apply memT))).some))) | (refine TL.storeAFr hF rfl rfl rfl rfl (by refine ⟨?_, ?_⟩; (focus (repeat (first | apply SetV.head | apply SetV.tail))); rfl) rfl ?_; clear hF; intro ws hF) | (refine TL.allocFr hF (d := 7) rfl rfl ?_; clear hF; intro w7 b7 hF) | (refine TL.storeAtFr hF (f := ivc) ⟨ys, ⟨yA, yn, yc, yl⟩⟩ rfl rfl rfl rfl (fun _ => rfl) hil (ivc_noV lz) (by repeat (first | apply SetV.head | apply SetV.tail)) ?_; clear hF; intro ws hF)) | (refine TF.is ?_; first | refine TF.nil ?_ | refine TF.e rfl ?_ | (refine TF.pick rfl ?_; first | (apply TFo.ev; (case hd => rfl); (case h => (intro wh hF; first | exact ev_simple rfl | (apply Ev.isBin; first | exact ev_arN rfl rfl rfl (by omega)) | (apply Ev.isLoad; first | exact ev_loadFr hF rfl (by refine ⟨?_, ?_⟩; (focus (repeat (first | exact InV.head | apply InV.tail))); rfl) | exact ev_loadAFr hF rfl (by refine ⟨?_, ?_⟩; (focus (repeat (first | exact InV.head | apply InV.tail))); rfl) | exact ev_loadCb hF rfl (by repeat (first | exact memH | apply memT)) rfl) | exact ev_fieldAddr rfl | exact ev_nilCheck rfl | exact ev_indexM rfl rfl hidx (.inr rfl)))))) | (refine T.is ?_; first | refine T.seq ?_ | refine T.region ?_ | refine T.block ?_ | refine T.cond_t rfl ?_ | refine T.skip ?_ | (refine T.regionFt hF.swap 9 15 (.s 0 (.s 1 (.s 2 (.s 3 (.s 4 (.s 5 (.s 6 (.s 7 (.s 8 (.s 9 (.s 10 (.s 11 (.s 12 (.s 13 (.s 14 (.e 15 .nil)))))))))))))))) mixed (by kernel_rfl) ?_; clear hF; intro wr hF)) | (refine G.is ?_; first | refine G.next ?_ | refine G.blockN ?_ | refine G.only ?_ | refine G.treeEnd rfl ?_) | refine TL.nil ?_)
    all_goals
      have hk := lk_put (Fr.lk hF (i := r * c) (l := lz) (by repeat (first | exact memH | apply memT))) hlz hidx (Fr.li hF (x := ⟨ys, ⟨yA, yn, yc, yl⟩⟩) (by repeat (first | exact memH | apply memT))) hgn
      rw [den_step hp1 hp hbc] at hk
      exact G.again (i + 1, lz.set (a * c + b) ⟨ys, ⟨yA, yn, yc, yl⟩⟩) (by repeat (first | exact Sub.nil _ | refine Sub.cons rfl ?_ | refine Sub.cons' rfl (int_congr (by omega)) ?_)) ⟨hin, by dsimp only; rw [List.length_set]; exact hlz, (Fr.addLK hF hk).weak (List.Sublist.cons_cons _ (List.Sublist.cons _ (List.Sublist.refl _))) (allH (by repeat (first | exact memH | apply memT)) (allH (by repeat (first | exact memH | apply memT)) (allH (by repeat (first | exact memH | apply memT)) (allH (by repeat (first | exact memH | apply memT)) allN))))⟩ (by dsimp only; omega)
  · obtain rfl : i = N := by omega
    repeat' (first | (refine TL.isOp ?_; first | (refine TL.isBin ?_; refine TL.cmpG rfl rfl rfl rfl (fun hc => ?_) (fun hc => ?_) <;> (try (first | (exfalso; omega) | exact absurd rfl hc))) | (apply TL.ev; (case hd => rfl); (case h => (first | exact ev_simple rfl | (apply Ev.isLoad; first | exact ev_loadAFr hF rfl (by refine ⟨?_, ?_⟩; (focus (repeat (first | exact InV.head | apply InV.tail))); rfl))))) | (refine TL.storeAFr hF rfl rfl rfl rfl (by refine ⟨?_, ?_⟩; (focus (repeat (first | apply SetV.head | apply SetV.tail))); rfl) rfl ?_; clear hF; intro ws hF)) | (refine T.is ?_; first | refine T.seq ?_ | refine T.region ?_ | refine T.cond_f rfl ?_ | refine T.exit ?_ | refine T.ret ?_) | (refine G.is ?_; first | refine G.next ?_ | refine G.blockE ?_ | refine G.thenE ?_) | refine TL.nil ?_)
    have hVz := hF.var (b := bz) (by repeat (first | exact InV.head | apply InV.tail))
    have hlk := Fr.lk hF (i := r * c) (l := lz) (by repeat (first | exact memH | apply memT))
    have htk : l1.take i = l1 := List.take_of_length_le (by rw [hp1.len]; exact Nat.le_refl _)
    rw [htk] at hlk
    refine G.retC2 rfl rfl rfl (held_agg (hF.var (b := b2) (by repeat (first | exact InV.head | apply InV.tail))) rfl) ⟨⟨(r : Int), (c : Int), some ⟨bz, 0, none⟩, r * c, r * c, lz⟩, rfl, ⟨⟨rfl, rfl, hr, hcc, rfl⟩, vr_sm (zs := []) (by omega) (fun _ _ => rfl) (by rw [List.append_nil]; exact hVz) hlz (Nat.le_refl _) hVz.lt, fun u v hu hv2 => ?_⟩, hF.ext, .inr ⟨bz, rfl, hbz2⟩⟩
    have := hlk (u * c + v) (place_lt hu hv2)
    dsimp only at this
    rw [← (plq_iff (a := u) hv2).2 rfl, hp1.val] at this
    exact this
end Go.Proofs.YtlpheckjogphmaaGreat
set_option linter.unusedSectionVars false
namespace Go.Proofs.YtlpheckjogphmaaGreat
open Go Go.Eng Go.Proofs Go.NatM Go.RowKit
theorem iv_blB (w : World) (x : IV) (g : GI w.heap x) (hn : x.m.n ≤ 1099511627776) : Cl Tryz.prog 30 #[.slice x.m.A x.m.n x.m.c] w (fun e w' => e = .returned (.int .i64 ((bl (ival x).natAbs : Nat) : Int)) ∧ Ext w w') := by
  rw [ival_nat]
  exact (bitlen_ok w.heap _ x.m.A x.m.n x.m.c x.m.l g.s g.u (by omega)).cl.mono fun e w' h => ⟨h.1, h.2.ext⟩
theorem longL (w : World) (x : MV) (K : Nat) (hs : Sm 2 ivc w.heap w.heap.size x.A x.n x.k x.l) (hg : ∀ y ∈ x.l, GI w.heap y ∧ y.m.n ≤ K) (hK : K ≤ 1099511627776) (hn : x.n ≤ 1048576) (b : Bool) (hb : b = true ↔ ∃ y ∈ x.l, big y) :
    Cl Tryz.prog 6 #[.agg (mvc x).toArray] w (fun e w' => e = .returned (.bool b) ∧ Ext w w') := by
  obtain ⟨xr, xc, A, n, k, l⟩ := x
  dsimp only at hs hg hn hb
  have hl := hs.len
  refine enter Tryz.func6 rfl rfl rfl ?_
  have hF := Fr.refl w
  repeat' (first | (refine TL.isOp ?_; first | (apply TL.ev; (case hd => rfl); (case h => (first | exact ev_simple rfl))) | (refine TL.boxAFr hF (d := 1) (cs := [.int .i64 xr, .int .i64 xc, .slice A n k]) rfl rfl ?_; clear hF; intro w1 b1 hF)) | (refine T.is ?_; first | refine T.seq ?_ | refine T.region ?_ | refine T.block ?_) | (refine G.is ?_; first | refine G.next ?_) | refine TL.nil ?_)
  refine T.loop (α := Nat) (fun i => [(1, .pointer (some ⟨b1, 0, none⟩)), (3, .int .i64 (i : Int))]) (fun i w' => i ≤ n ∧ (∀ j y, j < i → l[j]? = some y → ¬ big y) ∧ Fr w w' [⟨b1, 24, [.int .i64 xr, .int .i64 xc, .slice A n k]⟩] []) (fun i => n - i) 0 (by repeat (first | exact Sub.nil _ | refine Sub.cons rfl ?_ | refine Sub.cons' rfl (int_congr (by omega)) ?_)) ⟨Nat.zero_le _, fun j y h => absurd h (Nat.not_lt_zero _), hF⟩ ?_
  clear hF
  rintro i w1 ⟨hi, hnb, hF⟩
  rcases Nat.lt_or_ge i n with hin | hin
  · obtain ⟨y, hy⟩ : ∃ y, l[i]? = some y := ⟨_, List.getElem?_eq_getElem (by omega)⟩
    have gy := hg y (List.mem_of_getElem? hy)
    have hym := List.mem_of_getElem? hy
    rcases hs.mem with h0 | ⟨bA, oA, rfl, _⟩
    · exact absurd h0 (by omega)
    have hbl := fun w1 (hE : Ext w w1) => iv_blB w1 y (gy.1.ext hE) (by omega)
    obtain ⟨q, hq⟩ : ∃ q, bl (ival y).natAbs = q := ⟨_, rfl⟩
    rw [hq] at hbl
    have hbq : big y ↔ 1048576 < q := by rw [big_iff]; unfold bigZ; rw [hq]
    obtain ⟨ys, ⟨yA, yn, yc, yl⟩⟩ := y
    dsimp only at hbl
    by_cases hlt : 1048576 < q
    · repeat' (first | (refine TL.isOp ?_; first | (refine TL.isCall ?_; refine TL.call rfl rfl ?_; first | (refine (hbl _ hF.ext).mono ?_; rintro _ wc ⟨rfl, hE⟩; replace hF := hF.exts hE; clear hE; refine Back.mk ?_)) | (refine TL.isBin ?_; refine TL.cmpG rfl rfl rfl rfl (fun hc => ?_) (fun hc => ?_) <;> (try (first | (exfalso; omega) | exact absurd rfl hc))) | (apply TL.ev; (case hd => rfl); (case h => (first | exact ev_simple rfl | (apply Ev.isLoad; first | exact ev_loadFr hF rfl (by refine ⟨?_, ?_⟩; (focus (repeat (first | exact InV.head | apply InV.tail))); rfl) | exact ev_loadMF rfl (hs.ext hF.ext) hy rfl) | exact ev_len rfl | exact ev_fieldAddr rfl | exact ev_fieldAddrE rfl rfl | exact ev_indexM rfl rfl hin (hs.ext hF.ext).some)))) | (refine T.is ?_; first | refine T.seq ?_ | refine T.region ?_ | refine T.block ?_ | refine T.cond_t rfl ?_ | refine T.ret ?_ | refine T.skip ?_) | (refine G.is ?_; first | refine G.next ?_ | refine G.blockR ?_ | refine G.thenR ?_) | refine TL.nil ?_)
      have e : b = true := hb.2 ⟨_, hym, hbq.2 hlt⟩
      subst e
      all_goals exact G.ret1 rfl rfl ⟨rfl, hF.ext⟩
    · repeat' (first | (refine TL.isOp ?_; first | (refine TL.isCall ?_; refine TL.call rfl rfl ?_; first | (refine (hbl _ hF.ext).mono ?_; rintro _ wc ⟨rfl, hE⟩; replace hF := hF.exts hE; clear hE; refine Back.mk ?_)) | (refine TL.isBin ?_; refine TL.cmpG rfl rfl rfl rfl (fun hc => ?_) (fun hc => ?_) <;> (try (first | (exfalso; omega) | exact absurd rfl hc))) | (apply TL.ev; (case hd => rfl); (case h => (first | exact ev_simple rfl | (apply Ev.isBin; first | exact ev_arN rfl rfl rfl (by omega)) | (apply Ev.isLoad; first | exact ev_loadFr hF rfl (by refine ⟨?_, ?_⟩; (focus (repeat (first | exact InV.head | apply InV.tail))); rfl) | exact ev_loadMF rfl (hs.ext hF.ext) hy rfl) | exact ev_len rfl | exact ev_fieldAddr rfl | exact ev_fieldAddrE rfl rfl | exact ev_indexM rfl rfl hin (hs.ext hF.ext).some)))) | (refine T.is ?_; first | refine T.seq ?_ | refine T.region ?_ | refine T.block ?_ | refine T.cond_t rfl ?_ | refine T.cond_f rfl ?_ | refine T.skip ?_) | (refine G.is ?_; first | refine G.next ?_ | refine G.blockN ?_) | refine TL.nil ?_)
      all_goals exact G.again (i + 1) (by repeat (first | exact Sub.nil _ | refine Sub.cons rfl ?_ | refine Sub.cons' rfl (int_congr (by omega)) ?_)) ⟨hin, fun j z hj hz => by
        rcases Nat.lt_or_ge j i with h | h
        · exact hnb j z h hz
        · obtain rfl : j = i := by omega
          rw [hy] at hz
          obtain rfl := Option.some.inj hz
          exact fun h => hlt (hbq.1 h), hF⟩ (by omega)
  · obtain rfl : i = n := by omega
    repeat' (first | (refine TL.isOp ?_; first | (refine TL.isBin ?_; refine TL.cmpG rfl rfl rfl rfl (fun hc => ?_) (fun hc => ?_) <;> (try (first | (exfalso; omega) | exact absurd rfl hc))) | (apply TL.ev; (case hd => rfl); (case h => (first | exact ev_simple rfl | (apply Ev.isLoad; first | exact ev_loadFr hF rfl (by refine ⟨?_, ?_⟩; (focus (repeat (first | exact InV.head | apply InV.tail))); rfl)) | exact ev_len rfl | exact ev_fieldAddr rfl)))) | (refine T.is ?_; first | refine T.seq ?_ | refine T.region ?_ | refine T.cond_f rfl ?_ | refine T.exit ?_ | refine T.ret ?_) | (refine G.is ?_; first | refine G.next ?_ | refine G.blockE ?_ | refine G.thenE ?_) | refine TL.nil ?_)
    have e : b = false := by
      cases b with
      | false => rfl
      | true =>
        obtain ⟨y, hy, h⟩ := hb.1 rfl
        obtain ⟨j, hj⟩ := List.mem_iff_getElem?.1 hy
        exact absurd h (hnb j y (by rw [← hl]; exact (List.getElem?_eq_some_iff.1 hj).1) hj)
    subst e
    all_goals exact G.ret1 rfl rfl ⟨rfl, hF.ext⟩
end Go.Proofs.YtlpheckjogphmaaGreat
set_option linter.unusedSectionVars false
namespace Go.Proofs.YtlpheckjogphmaaGreat
open Go Go.Eng Go.Proofs Go.NatM Go.RowKit
theorem matsT (w : World) (x y : MV) (r c K K' : Nat) (F F' : Nat → Nat → Int) (hx : LM w.heap x r c F K) (hy : LM w.heap y r c F' K') (hF' : ∀ i j, i < r → j < c → F i j = F' i j) (hK : K ≤ 1099511627776) (hK' : K' ≤ 1099511627776) :
    Cl Tryz.prog 17 #[.agg (mvc x).toArray, .agg (mvc y).toArray] w (YesM w) := by
  have e1 := hx.sh
  have e2 := hy.sh
  have sx := hx.s
  have sy := hy.s
  have gx := hx.g
  have gy := hy.g
  clear hx hy
  obtain ⟨xr, xc, A, n, k, l⟩ := x
  obtain ⟨yr, yc, A', n', k', l'⟩ := y
  obtain ⟨h1, h2, h3, h4, h5⟩ := e1
  obtain ⟨h1', h2', _, _, h5'⟩ := e2
  dsimp only at h1 h2 h5 h1' h2' h5' sx sy gx gy
  subst h1 h2 h1' h2'
  rw [h5] at sx
  rw [h5'] at sy
  subst h5 h5'
  have hrc := mul64 h3 h4
  have lx := sx.len
  have ly := sy.len
  refine enter Tryz.func17 rfl rfl rfl ?_
  have hF := Fr.refl w
  repeat' (first | (refine TL.isOp ?_; first | (refine TL.isG ?_; first | refine TL.grun rfl rfl rfl ?_) | (refine TL.isBin ?_; refine TL.cmpG rfl rfl rfl rfl (fun hc => ?_) (fun hc => ?_) <;> (try (first | (exfalso; omega) | exact absurd rfl hc))) | (apply TL.ev; (case hd => rfl); (case h => (first | exact ev_simple rfl | (apply Ev.isLoad; first | exact ev_loadFr hF rfl (by refine ⟨?_, ?_⟩; (focus (repeat (first | exact InV.head | apply InV.tail))); rfl)) | exact ev_len rfl | exact ev_fieldAddr rfl))) | (refine TL.boxAFr hF (d := 2) (cs := [.int .i64 (r : Int), .int .i64 (c : Int), .slice A (r * c) k]) rfl rfl ?_; clear hF; intro w2 b2 hF) | (refine TL.boxAFr hF (d := 3) (cs := [.int .i64 (r : Int), .int .i64 (c : Int), .slice A' (r * c) k']) rfl rfl ?_; clear hF; intro w3 b3 hF)) | (refine T.is ?_; first | refine T.seq ?_ | refine T.region ?_ | refine T.block ?_ | refine T.cond_f rfl ?_ | refine T.skip ?_) | (refine G.is ?_; first | refine G.next ?_) | refine TL.nil ?_)
  refine T.loop (α := Nat) (fun i => [(2, .pointer (some ⟨b2, 0, none⟩)), (3, .pointer (some ⟨b3, 0, none⟩)), (5, .int .i64 (i : Int))]) (fun i w' => i ≤ r * c ∧ Fr w w' [⟨b3, 24, [.int .i64 (r : Int), .int .i64 (c : Int), .slice A' (r * c) k']⟩, ⟨b2, 24, [.int .i64 (r : Int), .int .i64 (c : Int), .slice A (r * c) k]⟩] []) (fun i => r * c - i) 0 (by repeat (first | exact Sub.nil _ | refine Sub.cons rfl ?_ | refine Sub.cons' rfl (int_congr (by omega)) ?_)) ⟨Nat.zero_le _, hF⟩ ?_
  clear hF
  rintro i w1 ⟨hi, hF⟩
  rcases Nat.lt_or_ge i (r * c) with hin | hin
  · have hc : 0 < c := Nat.pos_of_ne_zero fun e => by rw [e, Nat.mul_zero] at hin; omega
    have hq1 : i / c < r := (Nat.div_lt_iff_lt_mul hc).2 hin
    have hq2 := Nat.mod_lt i hc
    have gp := gx (i / c) (i % c) hq1 hq2
    have gq := gy (i / c) (i % c) hq1 hq2
    rw [← hF' _ _ hq1 hq2] at gq
    rw [Nat.mul_comm, Nat.div_add_mod] at gp gq
    have hp : l[i]? = some (l.getD i default) := by simp [List.getD, show i < l.length by omega]
    have hq : l'[i]? = some (l'.getD i default) := by simp [List.getD, show i < l'.length by omega]
    generalize l.getD i default = y at *
    generalize l'.getD i default = z at *
    generalize F (i / c) (i % c) = v at *
    clear hc hq1 hq2
    repeat' (first | (refine TL.isOp ?_; first | (refine TL.isCall ?_; refine TL.call rfl rfl ?_; first | (refine (alikeL _ y z (gp.1.ext hF.ext) (gq.1.ext hF.ext) (by omega) (by omega)).mono ?_; rintro _ wc ⟨rfl, hE⟩; replace hF := hF.exts hE; clear hE; refine Back.mk ?_)) | (refine TL.isBin ?_; refine TL.cmpG rfl rfl rfl rfl (fun hc => ?_) (fun hc => ?_) <;> (try (first | (exfalso; omega) | exact absurd rfl hc))) | (apply TL.ev; (case hd => rfl); (case h => (first | exact ev_simple rfl | (apply Ev.isBin; first | exact ev_arN rfl rfl rfl (by omega)) | (apply Ev.isLoad; first | exact ev_loadFr hF rfl (by refine ⟨?_, ?_⟩; (focus (repeat (first | exact InV.head | apply InV.tail))); rfl)) | exact ev_len rfl | exact ev_fieldAddr rfl)))) | (refine TF.is ?_; first | refine TF.nil ?_ | refine TF.e rfl ?_ | (refine TF.pick rfl ?_; first | (apply TFo.ev; (case hd => rfl); (case h => (intro wh hF; first | exact ev_simple rfl | (apply Ev.isLoad; first | exact ev_loadFr hF rfl (by refine ⟨?_, ?_⟩; (focus (repeat (first | exact InV.head | apply InV.tail))); rfl) | exact ev_loadM rfl (sx.ext hF.ext) hp | exact ev_loadM rfl (sy.ext hF.ext) hq) | exact ev_fieldAddr rfl | exact ev_indexM rfl rfl hin (sx.ext hF.ext).some | exact ev_indexM rfl rfl hin (sy.ext hF.ext).some))))) | (refine T.is ?_; first | refine T.seq ?_ | refine T.region ?_ | refine T.block ?_ | refine T.cond_t rfl ?_ | refine T.cond_f rfl ?_ | refine T.skip ?_ | (refine T.regionFr hF 6 12 (.s 0 (.s 1 (.s 2 (.s 3 (.s 4 (.s 5 (.s 6 (.s 7 (.s 8 (.s 9 (.e 10 (.s 11 .nil)))))))))))) mixed (by kernel_rfl) ?_; clear hF; intro wr hF)) | (refine G.is ?_; first | refine G.next ?_ | refine G.blockN ?_ | refine G.only ?_ | refine G.tree rfl (by first | exact hF | exact hF.weak (List.sublist_append_right _ _) (by repeat (first | exact allR | apply allT)) | exact hF.weak (by repeat (first | exact List.Sublist.refl _ | apply List.Sublist.cons)) (by repeat (first | exact allR | apply allT)) | exact hF.weak (by repeat (first | exact List.Sublist.refl _ | apply List.Sublist.cons)) (by repeat (first | exact allN | refine allH (by repeat (first | exact memH | apply memT)) ?_))) ?_) | refine TL.nil ?_)
    all_goals exact G.again (i + 1) (by repeat (first | exact Sub.nil _ | refine Sub.cons rfl ?_ | refine Sub.cons' rfl (int_congr (by omega)) ?_)) ⟨hin, hF⟩ (by omega)
  · obtain rfl : i = r * c := by omega
    repeat' (first | (refine TL.isOp ?_; first | (refine TL.isBin ?_; refine TL.cmpG rfl rfl rfl rfl (fun hc => ?_) (fun hc => ?_) <;> (try (first | (exfalso; omega) | exact absurd rfl hc))) | (apply TL.ev; (case hd => rfl); (case h => (first | exact ev_simple rfl | (apply Ev.isLoad; first | exact ev_loadFr hF rfl (by refine ⟨?_, ?_⟩; (focus (repeat (first | exact InV.head | apply InV.tail))); rfl)) | exact ev_len rfl | exact ev_fieldAddr rfl)))) | (refine T.is ?_; first | refine T.seq ?_ | refine T.region ?_ | refine T.cond_f rfl ?_ | refine T.exit ?_ | refine T.ret ?_) | (refine G.is ?_; first | refine G.next ?_ | refine G.blockE ?_ | refine G.thenE ?_) | refine TL.nil ?_)
    exact G.ret1 rfl rfl ⟨rfl, hF.ext⟩
end Go.Proofs.YtlpheckjogphmaaGreat
namespace Go.Proofs.YtlpheckjogphmaaGreat
open Go Go.Eng Go.Proofs Go.NatM Go.RowKit
theorem RetZ.more {w : World} {z : Int} {K K' : Nat} (hK : K ≤ K') {e : Ending} {w' : World} (h : RetZ w z K e w') : RetZ w z K' e w' := by
  obtain ⟨x, h1, h2, h3, h4⟩ := h
  exact ⟨x, h1, h2, h3, Nat.le_trans h4 hK⟩
end Go.Proofs.YtlpheckjogphmaaGreat
set_option linter.unusedSectionVars false
namespace Go.Eng
open Go Go.Proofs Go.NatM Go.RowKit Go.Proofs.YtlpheckjogphmaaGreat
theorem inrc_len {r c : Nat} {ks : List (Int × Int)} (hn : ks.Nodup) (h : ∀ k ∈ ks, (0 ≤ k.1 ∧ k.1 < (r : Int)) ∧ (0 ≤ k.2 ∧ k.2 < (c : Int))) : ks.length ≤ r * c := by
  have h1 := nodup_len_le (b := ((List.range r).map fun i => (List.range c).map fun j => (((i : Nat) : Int), ((j : Nat) : Int))).flatten) hn fun k hk => by
    obtain ⟨a, b⟩ := k
    have := h _ hk
    dsimp only at this
    refine List.mem_flatten.2 ⟨_, List.mem_map.2 ⟨a.toNat, List.mem_range.2 (by omega), rfl⟩, List.mem_map.2 ⟨b.toNat, List.mem_range.2 (by omega), ?_⟩⟩
    have e1 : ((a.toNat : Nat) : Int) = a := by omega
    have e2 : ((b.toNat : Nat) : Int) = b := by omega
    rw [e1, e2]
  rwa [cross_len (fun (i j : Nat) => ((i : Int), (j : Int))), List.length_range, List.length_range] at h1
theorem InRC.add {r c : Nat} {A B : ZF} (hA : InRC r c A) (hB : InRC r c B) : InRC r c (addF A B) := fun k hk => by
  by_cases h : A k = 0
  · exact hB k fun e => hk (by unfold addF; rw [h, e]; rfl)
  · exact hA k h
theorem refu_big {r c : Nat} {Z : ZF} (hi : InRC r c Z) (hrc : r * c ≤ 4096) (h : Refu Z) : ∃ k, bigZ (Z k) := by
  rcases h with h | ⟨l', hz, hn, hv, hl⟩
  · exact h
  · have := inrc_len hn fun k hk => hi k (by rw [← hv]; exact (hz.keys k).1 hk)
    rw [List.length_map] at this
    omega
end Go.Eng
namespace Go.Proofs.YtlpheckjogphmaaGreat
open Go Go.Eng Go.Proofs Go.NatM Go.RowKit
end Go.Proofs.YtlpheckjogphmaaGreat
set_option linter.unusedSectionVars false
namespace Go.Proofs.YtlpheckjogphmaaGreat
open Go Go.Eng Go.Proofs Go.NatM Go.RowKit
end Go.Proofs.YtlpheckjogphmaaGreat
set_option linter.unusedSectionVars false
namespace Go.Eng
open Go Go.Proofs Go.NatM Go.RowKit Go.Proofs.YtlpheckjogphmaaGreat
theorem rows_at (F : Nat → Nat → Int) {r c i j : Nat} (hi : i < r) (hj : j < c) : rowsF F c r 0 ((i : Int), (j : Int)) = F i j := by
  unfold rowsF
  dsimp only
  rw [if_pos (by omega)]; rfl
theorem rowsF_in (F : Nat → Nat → Int) (r c : Nat) : InRC r c (rowsF F c r 0) := fun k hk => by
  unfold rowsF at hk
  by_cases h : (0 ≤ k.1 ∧ 0 ≤ k.2 ∧ k.2 < (c : Int)) ∧ (k.1 < (r : Int) ∨ (k.1 = (r : Int) ∧ k.2 < ((0 : Nat) : Int)))
  · omega
  · rw [if_neg h] at hk; exact absurd rfl hk
theorem bigs_iff {r c : Nat} {Z : ZF} {F : Nat → Nat → Int} (hi : InRC r c Z) (e : ∀ i j, i < r → j < c → Z ((i : Int), (j : Int)) = F i j) : (∃ k, bigZ (Z k)) ↔ ∃ i j, i < r ∧ j < c ∧ bigZ (F i j) := by
  constructor
  · rintro ⟨⟨a, b⟩, h⟩
    have h0 : Z (a, b) ≠ 0 := fun e => bigZ_zero (by rw [← e]; exact h)
    have hr := hi _ h0
    dsimp only at hr
    have e1 : ((a.toNat : Nat) : Int) = a := by omega
    have e2 : ((b.toNat : Nat) : Int) = b := by omega
    refine ⟨a.toNat, b.toNat, by omega, by omega, ?_⟩
    rw [← e _ _ (by omega) (by omega), e1, e2]; exact h
  · rintro ⟨i, j, h1, h2, h⟩
    exact ⟨_, by rw [e i j h1 h2]; exact h⟩
theorem lm_bigs {H : Array Obj} {m : MV} {r c K : Nat} {F : Nat → Nat → Int} (h : LM H m r c F K) : (∃ y ∈ m.l, big y) ↔ ∃ i j, i < r ∧ j < c ∧ bigZ (F i j) := by
  have hl := h.s.len
  have hn := h.sh.n
  constructor
  · rintro ⟨y, hy, hb⟩
    obtain ⟨q, hq⟩ := List.mem_iff_getElem?.1 hy
    have hqn : q < r * c := by have := (List.getElem?_eq_some_iff.1 hq).1; omega
    have hc : 0 < c := Nat.pos_of_ne_zero fun e => by rw [e, Nat.mul_zero] at hqn; omega
    have h1 : q / c < r := (Nat.div_lt_iff_lt_mul hc).2 hqn
    have h2 := Nat.mod_lt q hc
    have h3 := (h.g _ _ h1 h2).1.val
    have e : q / c * c + q % c = q := by rw [Nat.mul_comm]; exact Nat.div_add_mod q c
    rw [e] at h3
    have e2 : m.l.getD q default = y := by simp [List.getD, hq]
    rw [e2] at h3
    exact ⟨_, _, h1, h2, by rw [← h3]; exact (big_iff y).1 hb⟩
  · rintro ⟨i, j, h1, h2, hb⟩
    have hlt := place_lt h1 h2
    have e : m.l[i * c + j]? = some (m.l.getD (i * c + j) default) := by simp [List.getD, show i * c + j < m.l.length by omega]
    refine ⟨_, List.mem_of_getElem? e, (big_iff _).2 ?_⟩
    rw [(h.g i j h1 h2).1.val]; exact hb
theorem gz_n {H : Array Obj} {g m r c N : Nat} {Z : ZF} (h : GZ H g m r c Z N) (hi : InRC r c Z) (hrc : r * c ≤ 4096) : N ≤ 4096 := by
  obtain ⟨l, hG, hz, rfl, hv⟩ := h
  have := inrc_len (Gr.nodup hG) fun k hk => hi k (by rw [← hv]; exact (hz.keys k).1 hk)
  rw [List.length_map] at this
  omega
end Go.Eng
namespace Go.Proofs.YtlpheckjogphmaaGreat
open Go Go.Eng Go.Proofs Go.NatM Go.RowKit
theorem longLM (w : World) (m : MV) (r c K : Nat) (F : Nat → Nat → Int) (h : LM w.heap m r c F K) (hK : K ≤ 1099511627776) (b : Bool) (hb : b = true ↔ ∃ i j, i < r ∧ j < c ∧ bigZ (F i j)) :
    Cl Tryz.prog 6 #[.agg (mvc m).toArray] w (fun e w' => e = .returned (.bool b) ∧ Ext w w') := by
  have hn := h.sh.n
  have hrc := mul64 h.sh.r64 h.sh.c64
  have hl := h.s.len
  refine longL w m K h.s (fun y hy => ?_) hK (by omega) b (hb.trans (lm_bigs h).symm)
  obtain ⟨q, hq⟩ := List.mem_iff_getElem?.1 hy
  have hqn : q < r * c := by have := (List.getElem?_eq_some_iff.1 hq).1; omega
  have hc : 0 < c := Nat.pos_of_ne_zero fun e => by rw [e, Nat.mul_zero] at hqn; omega
  have h3 := h.g _ _ ((Nat.div_lt_iff_lt_mul hc).2 hqn) (Nat.mod_lt q hc)
  have e : q / c * c + q % c = q := by rw [Nat.mul_comm]; exact Nat.div_add_mod q c
  rw [e] at h3
  have e2 : m.l.getD q default = y := by simp [List.getD, hq]
  rw [e2] at h3
  exact ⟨h3.1.g, h3.2⟩
end Go.Proofs.YtlpheckjogphmaaGreat
set_option linter.unusedSectionVars false
namespace Go.Eng
open Go Go.Proofs Go.NatM Go.RowKit Go.Proofs.YtlpheckjogphmaaGreat
def swpF (Z : ZF) (i j : Int) (k : Int × Int) : Int := Z (swp i j k.1, k.2)
def clrF (Z : ZF) (i : Int) (k : Int × Int) : Int := if k.1 = i then 0 else Z k
theorem gz_room {H : Array Obj} {g m r c N : Nat} {Z : ZF} {p : Int × Int} (h : GZ H g m r c Z N) (hi : InRC r c Z) (hrc : r * c ≤ 4096) (hp : (0 ≤ p.1 ∧ p.1 < (r : Int)) ∧ (0 ≤ p.2 ∧ p.2 < (c : Int))) (h0 : Z p = 0) : N < 4096 := by
  obtain ⟨l, hG, hz, rfl, hv⟩ := h
  have hno : p ∉ l.map (·.1) := fun hm => (hz.keys p).1 hm (by rw [hv, h0])
  have := inrc_len (r := r) (c := c) (List.nodup_cons.2 ⟨hno, Gr.nodup hG⟩) fun k hk => by
    rcases List.mem_cons.1 hk with rfl | hk
    · exact hp
    · exact hi k (by rw [← hv]; exact (hz.keys k).1 hk)
  simp only [List.length_cons, List.length_map] at this
  omega
end Go.Eng
namespace Go.Proofs.YtlpheckjogphmaaGreat
open Go Go.Eng Go.Proofs Go.NatM Go.RowKit
def RetCh (w : World) (g m r c : Nat) (Z : ZF) (er : Int) (e : Ending) (w' : World) : Prop := ∃ N', e = .returned (.int .i64 er) ∧ Exs (fun k => k = m) w w' ∧ GZ w'.heap g m r c Z N'
theorem RetCh.of {w w' : World} {g m r c N : Nat} {Z : ZF} {er : Int} {e : Ending} (h : GZ w.heap g m r c Z N) (he : e = .returned (.int .i64 er)) (hE : Ext w w') : RetCh w g m r c Z er e w' := ⟨N, he, Exs.of hE, h.ext hE⟩
theorem chSet5 (w : World) (g m r c N : Nat) (Z : ZF) (p1 p2 : Int) (x : IV) (hG : GZ w.heap g m r c Z N) (hp : (0 ≤ p1 ∧ p1 < (r : Int)) ∧ (0 ≤ p2 ∧ p2 < (c : Int))) (hx : GI w.heap x) (hxn : x.m.n ≤ 1099511627776) (hb : bigZ (ival x)) :
    Cl Tryz.prog 12 #[.pointer (some ⟨g, 0, none⟩), .int .i64 p1, .int .i64 p2, ivA x] w (RetCh w g m r c Z 5) :=
  (setF5 w g m r c N Z p1 p2 x hG hp hx hxn (.inl hb)).mono fun e w' h => ⟨N, h.1, h.2.1, h.2.2⟩
theorem chSet0 (w : World) (g m r c N : Nat) (Z : ZF) (p1 p2 : Int) (x : IV) (hG : GZ w.heap g m r c Z N) (hi : InRC r c Z) (hrc : r * c ≤ 4096) (hp : (0 ≤ p1 ∧ p1 < (r : Int)) ∧ (0 ≤ p2 ∧ p2 < (c : Int))) (hx : GI w.heap x) (hxn : x.m.n ≤ 1099511627776) (hb : ¬ bigZ (ival x)) :
    Cl Tryz.prog 12 #[.pointer (some ⟨g, 0, none⟩), .int .i64 p1, .int .i64 p2, ivA x] w (RetCh w g m r c (updZ Z (p1, p2) (ival x)) 0) := by
  have hnb : ¬ SetBz Z N (p1, p2) (ival x) := by
    rintro (h | ⟨h0, _, h⟩)
    · exact hb h
    · have := gz_room hG hi hrc hp h0; omega
  obtain ⟨l, hGr, hz, rfl, hv⟩ := id hG
  have hb' : ¬ SetBad l (p1, p2) (ival x) := by unfold SetBad; rw [hv]; exact hnb
  refine (gsetZ_ok w g m r c l p1 p2 x hGr hz hp hx hxn).mono ?_
  rintro e w' ⟨er, l2, ⟨rfl, hE, hG2⟩, ⟨rfl, rfl, hb2⟩ | ⟨rfl, _, hz2, hv2, hl2⟩⟩
  · exact absurd hb2 hb'
  · exact ⟨_, rfl, hE, l2, hG2, hz2, rfl, fun k => by rw [hv2]; unfold updZ; rw [hv]⟩
theorem rowF_in {r c : Nat} {Z : ZF} {i j kv : Int} (hi : InRC r c Z) (h1 : 0 ≤ i ∧ i < (r : Int)) : InRC r c (rowF Z i j kv) := fun k hk => by
  unfold rowF at hk
  by_cases e : k.1 = i
  · rw [if_pos e] at hk
    refine ⟨by rw [e]; exact h1, ?_⟩
    by_cases h0 : Z (i, k.2) = 0
    · have : Z (j, k.2) ≠ 0 := fun e2 => hk (by rw [h0, e2, Int.mul_zero]; rfl)
      exact (hi _ this).2
    · exact (hi _ h0).2
  · rw [if_neg e] at hk; exact hi k hk
theorem chRow (w : World) (g m r c N : Nat) (Z : ZF) (i j : Int) (x : IV) (hG : GZ w.heap g m r c Z N) (hin : InRC r c Z) (hrc : r * c ≤ 4096) (hi : 0 ≤ i ∧ i < (r : Int)) (hj : 0 ≤ j ∧ j < (r : Int)) (hx : GI w.heap x) (hxn : x.m.n ≤ 1073741824) :
    Cl Tryz.prog 13 #[.pointer (some ⟨g, 0, none⟩), .int .i64 i, .int .i64 j, ivA x] w
      (fun e w' => ((∃ k, bigZ (rowF Z i j (ival x) k)) ∧ RetCh w g m r c Z 5 e w') ∨ ((∀ k, ¬ bigZ (rowF Z i j (ival x) k)) ∧ RetCh w g m r c (rowF Z i j (ival x)) 0 e w')) := by
  have hN := gz_n hG hin hrc
  obtain ⟨l, hGr, hz, rfl, hv⟩ := hG
  refine (garow_ok w g m r c l i j x hGr hN hz hi hj hx hxn).mono ?_
  have ez : rowZ l i j (ival x) = rowF Z i j (ival x) := funext fun k => rowZ_eq hv i j _ k
  rw [ez]
  rintro e w' ⟨er, l2, ⟨rfl, hE, hG2⟩, ⟨rfl, rfl, hr⟩ | ⟨rfl, hz2, hl2, hv2, hb2⟩⟩
  · exact .inl ⟨refu_big (rowF_in hin hi) hrc hr, _, rfl, hE, _, hG2, hz, rfl, hv⟩
  · exact .inr ⟨hb2, _, rfl, hE, l2, hG2, hz2, rfl, hv2⟩
end Go.Proofs.YtlpheckjogphmaaGreat
namespace Go.Proofs.YtlpheckjogphmaaGreat
open Go Go.Eng Go.Proofs Go.NatM Go.RowKit
def RetUV (w : World) (n : Nat) (e : Ending) (w' : World) : Prop := ∃ (b : Nat) (l : List IV), e = .returned (.tuple #[.agg #[.int .i64 (n : Int), .int .i64 (n : Int), .slice (some ⟨b, 0, none⟩) (n * n) (n * n)], .int .i64 0]) ∧ Vr w'.heap b 27 (l.flatMap ivc) ∧ l.length = n * n ∧ LsK (n * n) l (fun q => if q / n = q % n then 1 else 0) 1 w'.heap ∧ Ext w w' ∧ w.heap.size ≤ b
theorem lk_unit {H : Array Obj} {n : Nat} {l : List IV} (h : ∀ i j, i < n → j < n → LI H (if i = j then 1 else 0) (l.getD (i * n + j) default) ∧ (l.getD (i * n + j) default).m.n ≤ 1) : LsK (n * n) l (fun q => if q / n = q % n then 1 else 0) 1 H := fun q hq => by
  have hc : 0 < n := Nat.pos_of_ne_zero fun e => by rw [e, Nat.mul_zero] at hq; omega
  have h1 : q / n < n := (Nat.div_lt_iff_lt_mul hc).2 hq
  have := h (q / n) (q % n) h1 (Nat.mod_lt _ hc)
  have e : q / n * n + q % n = q := by rw [Nat.mul_comm]; exact Nat.div_add_mod q n
  rwa [e] at this
theorem munitV (w : World) (n : Nat) (hn : n ≤ 64) : Cl Tryz.prog 65 #[.int .i64 (n : Int)] w (RetUV w n) := by
  have hs1 := fun (w : World) => (side_ok w.heap (n : Int) true (decide_eq_true (by omega))).cl
  refine enter Tryz.func65 rfl rfl rfl ?_
  have hF := Fr.refl w
  repeat' (first | (refine TL.isOp ?_; first | (refine TL.isCall ?_; refine TL.call rfl rfl ?_; first | (refine (hs1 _).mono ?_; rintro _ wc ⟨rfl, hE⟩; replace hF := hF.exts hE.ext; clear hE; refine Back.mk ?_) | (refine (build_okV _ n n hn hn 79 [] inferInstance (fun i j => if i = j then 1 else 0) 1 (fun i j w1 hi hj hE1 => unit1_ok w1 i j)).mono ?_; rintro _ wz ⟨bz, lz, rfl, hVz, hlz, hgz, hE, hbz⟩; have hbz2 := Nat.le_trans hF.exs.size hbz; replace hF := Fr.addLK (hF.newGe hbz hVz hE) (lk_unit hgz); clear hE hgz hVz; refine Back.mk ?_)) | (apply TL.ev; (case hd => rfl); (case h => (first | exact ev_simple rfl))) | (refine TL.storeAFr hF rfl rfl rfl rfl (by refine ⟨?_, ?_⟩; (focus (repeat (first | apply SetV.head | apply SetV.tail))); rfl) rfl ?_; clear hF; intro ws hF) | (refine TL.allocFr hF (d := 2) rfl rfl ?_; clear hF; intro w2 b2 hF)) | (refine T.is ?_; first | refine T.seq ?_ | refine T.region ?_ | refine T.cond_f rfl ?_ | refine T.ret ?_ | refine T.skip ?_) | (refine G.is ?_; first | refine G.next ?_) | refine TL.nil ?_)
  exact G.retC2 rfl rfl rfl (held_agg (hF.var (by repeat (first | exact InV.head | apply InV.tail))) rfl) ⟨bz, lz, rfl, hF.var (b := bz) (by repeat (first | exact InV.head | apply InV.tail)), hlz, Fr.lk hF (i := n * n) (l := lz) (by repeat (first | exact memH | apply memT)), hF.ext, hbz2⟩
end Go.Proofs.YtlpheckjogphmaaGreat
namespace Go.Proofs.YtlpheckjogphmaaGreat
open Go Go.Eng Go.Proofs Go.NatM Go.RowKit
end Go.Proofs.YtlpheckjogphmaaGreat
namespace Go.Proofs.YtlpheckjogphmaaGreat
open Go Go.Eng Go.Proofs Go.NatM Go.RowKit
def InL (l : List Int) (r : Nat) : Prop := ∀ z ∈ l, 0 ≤ z ∧ z < (r : Int)
theorem InL.at {l : List Int} {r i : Nat} (h : InL l r) (hi : i < l.length) : ∃ z : Nat, l.getD i 0 = (z : Int) ∧ z < r ∧ z = (l.getD i 0).toNat := by
  have e : l.getD i 0 = l[i] := by simp [List.getD, hi]
  obtain ⟨h1, h2⟩ := h l[i] (List.getElem_mem hi)
  exact ⟨l[i].toNat, by rw [e]; omega, by omega, by rw [e]⟩
theorem InL.of {l : List Int} {r : Nat} (h : ∀ q, q < l.length → 0 ≤ l.getD q 0 ∧ l.getD q 0 < (r : Int)) : InL l r := by
  intro z hz
  obtain ⟨q, hq⟩ := List.getElem?_of_mem hz
  have hlt := (List.getElem?_eq_some_iff.1 hq).1
  have := h q hlt
  simp only [List.getD, hq, Option.getD_some] at this
  exact this
theorem InL.not {l : List Int} {r q : Nat} (hq : q < l.length) (h : ¬ (0 ≤ l.getD q 0 ∧ l.getD q 0 < (r : Int))) : ¬ InL l r := fun hl => by
  obtain ⟨z, e, hz, _⟩ := hl.at hq
  exact h (by rw [e]; omega)
end Go.Proofs.YtlpheckjogphmaaGreat
set_option linter.unusedSectionVars false
namespace Go.Eng
open Go Go.Proofs Go.NatM Go.RowKit Go.Proofs.YtlpheckjogphmaaGreat
section
variable {S : Nat → Prop} {w0 w w' : World} {L : List VB} {D : List DP}
theorem Fr.smB {b n : Nat} {t : TypeId} {l : List IV} (hF : Fr w0 w L D S) (hI : InV L b t (l.flatMap ivc)) (hl : l.length = n) : Sm 2 ivc w.heap w.heap.size (some ⟨b, 0, none⟩) n n l :=
  vr_sm (zs := []) (by omega) (fun _ _ => rfl) (by rw [List.append_nil]; exact hF.var hI) hl (Nat.le_refl _) (hF.var hI).lt
end
theorem LsK.mono {H : Array Obj} {l : List IV} {Z : Nat → Int} {i K K' : Nat} (h : LsK i l Z K H) (hk : K ≤ K') : LsK i l Z K' H := fun q hq => ⟨(h q hq).1, Nat.le_trans (h q hq).2 hk⟩
end Go.Eng
namespace Go.Proofs.YtlpheckjogphmaaGreat
open Go Go.Eng Go.Proofs Go.NatM Go.RowKit
def RetLV (w : World) (n : Nat) (Z : Nat → Int) (K : Nat) (e : Ending) (w' : World) : Prop := ∃ (b : Nat) (l : List IV), e = .returned (.slice (some ⟨b, 0, none⟩) n n) ∧ Vr w'.heap b 27 (l.flatMap ivc) ∧ l.length = n ∧ LsK n l Z K w'.heap ∧ Ext w w' ∧ w.heap.size ≤ b
set_option maxRecDepth 100000 in
theorem eachV (w : World) (A : Option Addr) (n k : Nat) (l : List IV) (hs : Sm 2 ivc w.heap w.heap.size A n k l) (hn : n ≤ 1048576) (g : FuncId) (cap : List Value) (hg : IsFn Tryz.prog g) (Z : Nat → Int) (K : Nat)
    (hG : ∀ i y (w1 : World), l[i]? = some y → Ext w w1 → Cl Tryz.prog g ([Value.agg (ivc y).toArray] ++ cap).toArray w1 (RetZ w1 (Z i) K)) :
    Cl Tryz.prog 28 #[.slice A n k, .func (.func g) #[] cap.toArray] w (RetLV w n Z K) := by
  have hlen := hs.len
  refine enter Tryz.func28 rfl rfl rfl ?_
  have hF := Fr.refl w
  repeat' (first | (refine TL.isOp ?_; first | (apply TL.ev; (case hd => rfl); (case h => (first | exact ev_simple rfl | exact ev_len rfl))) | (refine TL.makeFr hF ivc ⟨false, ⟨none, 0, 0, []⟩⟩ (d := 10) rfl rfl rfl (Nat.le_refl _) (by omega) rfl rfl rfl ?_; clear hF; intro w10 b10 hF)) | (refine T.is ?_; first | refine T.seq ?_ | refine T.region ?_ | refine T.block ?_) | (refine G.is ?_; first | refine G.next ?_) | refine TL.nil ?_)
  refine T.loop (α := Nat × List IV) (fun x => [(1, .func (.func g) #[] cap.toArray), (5, .slice (some ⟨b10, 0, none⟩) n n), (11, .slice A n k), (12, .int .i64 (n : Int)), (13, .int .i64 (x.1 : Int))])
    (fun x w' => x.1 ≤ n ∧ x.2.length = n ∧ Fr w w' [⟨b10, 27, x.2.flatMap ivc⟩] [dpLK x.1 x.2 Z K])
    (fun x => n - x.1) (0, List.replicate n ⟨false, ⟨none, 0, 0, []⟩⟩) (by repeat (first | exact Sub.nil _ | refine Sub.cons rfl ?_ | refine Sub.cons' rfl (int_congr (by omega)) ?_)) ⟨Nat.zero_le _, List.length_replicate .., Fr.addLK hF (fun q hq => absurd hq (Nat.not_lt_zero _))⟩ ?_
  clear hF
  rintro ⟨i, zl⟩ w2 ⟨hi, hzl, hF⟩
  dsimp only at hi hzl hF ⊢
  rcases Nat.lt_or_ge i n with hin | hin
  · have hy : l[i]? = some (l.getD i default) := by simp [List.getD, show i < l.length by omega]
    obtain ⟨⟨yneg, ⟨yA, yn, yc, yl⟩⟩, ey⟩ : ∃ y, l.getD i default = y := ⟨_, rfl⟩
    rw [ey] at hy
    repeat' (first | (refine TL.isOp ?_; first | (refine TL.isBin ?_; refine TL.cmpG rfl rfl rfl rfl (fun hc => ?_) (fun hc => ?_) <;> (try (first | (exfalso; omega) | exact absurd rfl hc))) | (apply TL.ev; (case hd => rfl); (case h => (first | exact ev_simple rfl | (apply Ev.isBin; first | exact ev_arN rfl rfl rfl (by omega)) | (apply Ev.isLoad; first | exact ev_loadAFr hF rfl (by refine ⟨?_, ?_⟩; (focus (repeat (first | exact InV.head | apply InV.tail))); rfl) | exact ev_loadM rfl (hs.ext hF.ext) hy) | exact ev_indexM rfl rfl hin (hs.ext hF.ext).some | exact ev_indexM rfl rfl hin (.inr rfl)))) | (refine TL.storeAFr hF rfl rfl rfl rfl (by refine ⟨?_, ?_⟩; (focus (repeat (first | apply SetV.head | apply SetV.tail))); rfl) rfl ?_; clear hF; intro ws hF) | (refine TL.callV (vs := [.agg (ivc ⟨yneg, ⟨yA, yn, yc, yl⟩⟩).toArray]) (cap := cap) hg rfl rfl rfl ?_; refine (hG i _ _ hy hF.ext).mono ?_; rintro _ wf ⟨x, rfl, hLx, hE, hKx⟩; replace hF := Fr.addLI (hF.exts hE) hLx; clear hE hLx; refine Back.mk ?_) | (refine TL.storeAtFr hF (f := ivc) x rfl rfl rfl rfl (fun _ => rfl) (by rw [hzl]; exact hin) (ivc_noV zl) (by repeat (first | apply SetV.head | apply SetV.tail)) ?_; clear hF; intro ws hF) | (refine TL.allocFr hF rfl rfl ?_; clear hF; intro wa ba hF)) | (refine T.is ?_; first | refine T.seq ?_ | refine T.region ?_ | refine T.block ?_ | refine T.cond_t rfl ?_ | refine T.skip ?_) | (refine G.is ?_; first | refine G.next ?_ | refine G.blockN ?_) | refine TL.nil ?_)
    have hk := (Fr.lk hF (i := i) (l := zl) (by repeat (first | exact memH | apply memT))).set (by omega) (Fr.li hF (x := x) (by repeat (first | exact memH | apply memT))) hKx
    exact G.again (i + 1, zl.set i x) (by repeat (first | exact Sub.nil _ | refine Sub.cons rfl ?_ | refine Sub.cons' rfl (int_congr (by omega)) ?_)) ⟨by dsimp only; omega, by rw [List.length_set]; exact hzl, Fr.addLK (hF.weak (L := [⟨b10, 27, (zl.set i x).flatMap ivc⟩]) (D := []) (List.Sublist.cons _ (List.Sublist.refl _)) allN) hk⟩ (by dsimp only; omega)
  · obtain rfl : i = n := by omega
    repeat' (first | (refine TL.isOp ?_; first | (refine TL.isBin ?_; refine TL.cmpG rfl rfl rfl rfl (fun hc => ?_) (fun hc => ?_) <;> (try (first | (exfalso; omega) | exact absurd rfl hc))) | (apply TL.ev; (case hd => rfl); (case h => (first | exact ev_simple rfl)))) | (refine T.is ?_; first | refine T.seq ?_ | refine T.region ?_ | refine T.cond_f rfl ?_ | refine T.exit ?_ | refine T.ret ?_) | (refine G.is ?_; first | refine G.next ?_ | refine G.blockE ?_ | refine G.thenE ?_) | refine TL.nil ?_)
    refine G.ret1 rfl rfl ⟨b10, zl, rfl, hF.var .head, hzl, Fr.lk hF (by repeat (first | exact memH | apply memT)), hF.ext, ?_⟩
    rcases hF.lo .head with h | h
    · exact h
    · exact h.elim
def RetEV (w : World) (r c : Nat) (Z : Nat → Int) (K : Nat) (e : Ending) (w' : World) : Prop := ∃ (b : Nat) (l : List IV), e = .returned (.tuple #[.agg #[.int .i64 (r : Int), .int .i64 (c : Int), .slice (some ⟨b, 0, none⟩) (r * c) (r * c)], .int .i64 0]) ∧ Vr w'.heap b 27 (l.flatMap ivc) ∧ l.length = r * c ∧ LsK (r * c) l Z K w'.heap ∧ Ext w w' ∧ w.heap.size ≤ b
set_option maxRecDepth 100000 in
theorem mleastV (w : World) (x : MV) (r c K : Nat) (gx : GM w.heap x r c K) (hK : K ≤ 35184372088832) : Cl Tryz.prog 5 #[.agg (mvc x).toArray] w (RetEV w r c (fun q => ival (x.l.getD q default)) K) := by
  have hs0 := gx.sh
  obtain ⟨xr, xc, A1, n1, k1, l1⟩ := x
  obtain ⟨hr1, hc1, hr, hc, hn1⟩ := hs0
  dsimp only at hr1 hc1 hn1
  subst hr1 hc1 hn1
  have hm := mul64 hr hc
  refine enter Tryz.func5 rfl rfl rfl ?_
  have hF := Fr.refl w
  repeat' (first | (refine TL.isOp ?_; first | (refine TL.isCall ?_; refine TL.call rfl rfl ?_; first | (refine (chk_ok _ _ r c gx.sh).mono ?_; rintro _ wy ⟨rfl, hE⟩; replace hF := hF.exts hE; clear hE; refine Back.mk ?_) | (refine (eachV _ A1 (r * c) k1 l1 (gx.s.ext hF.ext).size (by omega) 29 [] inferInstance _ K (least_each _ l1 K (fun y hy => ⟨(gx.g y hy).1.ext hF.ext, (gx.g y hy).2⟩) hK)).mono ?_; rintro _ wl ⟨bz, lz, rfl, hVz, hlz, hgz, hE, hbz⟩; have hbz2 := Nat.le_trans hF.exs.size hbz; replace hF := (Fr.addLK (hF.newGe hbz hVz hE) hgz).swap; clear hE hgz hVz; refine Back.mk ?_)) | (refine TL.isBin ?_; refine TL.cmpG rfl rfl rfl rfl (fun hc => ?_) (fun hc => ?_) <;> (try (first | (exfalso; omega) | exact absurd rfl hc))) | (apply TL.ev; (case hd => rfl); (case h => (first | exact ev_simple rfl | (apply Ev.isLoad; first | exact ev_loadAFr hF rfl (by refine ⟨?_, ?_⟩; (focus (repeat (first | exact InV.head | apply InV.tail))); rfl))))) | (refine TL.storeAFr hF rfl rfl rfl rfl (by refine ⟨?_, ?_⟩; (focus (repeat (first | apply SetV.head | apply SetV.tail))); rfl) rfl ?_; clear hF; intro ws hF) | (refine TL.boxAFr hF (d := 1) (cs := [.int .i64 (r : Int), .int .i64 (c : Int), .slice A1 (r * c) k1]) rfl rfl ?_; clear hF; intro w1 b1 hF) | (refine TL.allocFr hF (d := 2) rfl rfl ?_; clear hF; intro w2 b2 hF)) | (refine TF.is ?_; first | refine TF.nil ?_ | refine TF.e rfl ?_ | (refine TF.pick rfl ?_; first | (apply TFo.ev; (case hd => rfl); (case h => (intro wh hF; first | exact ev_simple rfl | (apply Ev.isLoad; first | exact ev_loadFr hF rfl (by refine ⟨?_, ?_⟩; (focus (repeat (first | exact InV.head | apply InV.tail))); rfl)) | exact ev_fieldAddr rfl | exact ev_buildX rfl rfl))))) | (refine T.is ?_; first | refine T.seq ?_ | refine T.region ?_ | refine T.cond_f rfl ?_ | refine T.ret ?_ | refine T.skip ?_ | (refine T.regionFt hF 4 10 (.s 0 (.s 1 (.s 2 (.s 3 (.s 4 (.s 5 (.e 6 (.s 7 (.e 8 (.s 9 .nil)))))))))) mixed (by kernel_rfl) ?_; clear hF; intro wr hF)) | (refine G.is ?_; first | refine G.next ?_ | refine G.only ?_ | refine G.tree rfl (by first | exact hF | exact hF.weak (List.sublist_append_right _ _) (by repeat (first | exact allR | apply allT)) | exact hF.weak (by repeat (first | exact List.Sublist.refl _ | apply List.Sublist.cons)) (by repeat (first | exact allR | apply allT)) | exact hF.weak (by repeat (first | exact List.Sublist.refl _ | apply List.Sublist.cons)) (by repeat (first | exact allN | refine allH (by repeat (first | exact memH | apply memT)) ?_))) ?_) | refine TL.nil ?_)
  exact G.retC2 rfl rfl rfl (held_agg (hF.var (b := b2) (by repeat (first | exact InV.head | apply InV.tail))) rfl) ⟨bz, lz, rfl, hF.var (b := bz) (by repeat (first | exact InV.head | apply InV.tail)), hlz, Fr.lk hF (i := r * c) (l := lz) (by repeat (first | exact memH | apply memT)), hF.ext, hbz2⟩
def unF (i j : Nat) (v : Int) (p q : Nat) : Int := (if p = q then 1 else 0) + (if p = i ∧ q = j then v else 0)
set_option maxRecDepth 100000 in
theorem lunit (w : World) (n i j : Nat) (x : IV) (hn : n ≤ 64) (hi : i < n) (hj : j < n) (gx : GI w.heap x) (hx : x.m.n ≤ 1099511627776) :
    Cl Tryz.prog 43 #[.int .i64 (n : Int), .int .i64 (i : Int), .int .i64 (j : Int), ivA x] w (RetM w n n (unF i j (ival x)) (x.m.n + 2)) := by
  have hu := fun w => munitV w n hn
  have hp := place_lt hi hj
  have hnn := mul64 hn hn
  have hin : i * n ≤ 4096 := by omega
  obtain ⟨v, hv⟩ : ∃ v, ival x = v := ⟨_, rfl⟩
  have hadd := fun w1 (hE : Ext w w1) y (gy : GI w1.heap y) (hy : y.m.n ≤ 1) => zadd_ok w1 y x gy (gx.ext hE) (by omega) (by omega)
  rw [hv] at hadd ⊢
  obtain ⟨xs, ⟨xA, xn, xc, xl⟩⟩ := x
  dsimp only at hx hadd
  refine enter Tryz.func43 rfl rfl rfl ?_
  have hF := Fr.refl w
  repeat' (first | (refine TL.isOp ?_; first | (refine TL.isCall ?_; refine TL.call rfl rfl ?_; first | (refine (hu _).mono ?_; rintro _ wz ⟨bz, lz, rfl, hVz, hlz, hgz, hE, hbz⟩; have hbz2 := Nat.le_trans hF.exs.size hbz; replace hF := Fr.addLK (hF.newGe hbz hVz hE) hgz; clear hE hgz hVz; refine Back.mk ?_)) | (apply TL.ev; (case hd => rfl); (case h => (first | exact ev_simple rfl))) | (refine TL.storeAFr hF rfl rfl rfl rfl (by refine ⟨?_, ?_⟩; (focus (repeat (first | apply SetV.head | apply SetV.tail))); rfl) rfl ?_; clear hF; intro ws hF) | (refine TL.boxAFr hF (d := 7) (cs := [.bool xs, .slice xA xn xc]) rfl rfl ?_; clear hF; intro w7 b7 hF) | (refine TL.allocFr hF (d := 8) rfl rfl ?_; clear hF; intro w8 b8 hF) | (refine TL.allocFr hF (d := 9) rfl rfl ?_; clear hF; intro w9 b9 hF)) | (refine T.is ?_; first | refine T.seqM 2 rfl ?_ | refine T.region ?_) | (refine G.is ?_; first | refine G.next ?_) | refine TL.nil ?_)
  have hlk := Fr.lk hF (i := n * n) (l := lz) (by repeat (first | exact memH | apply memT)) (i * n + j) hp
  have hy : lz[i * n + j]? = some (lz.getD (i * n + j) default) := by simp [List.getD, show i * n + j < lz.length by omega]
  obtain ⟨y, hyy⟩ : ∃ y, lz.getD (i * n + j) default = y := ⟨_, rfl⟩
  rw [hyy] at hlk hy
  have hyn := hlk.2
  obtain ⟨z0, hz0⟩ : ∃ z0, ival y = z0 := ⟨_, rfl⟩
  have hz1 := hlk.1.val
  replace hF := Fr.addLI hF hlk.1
  clear hlk hyy
  obtain ⟨ys, ⟨yA, yn, yc, yl⟩⟩ := y
  dsimp only at hyn
  repeat' (first | (refine TL.isOp ?_; first | (refine TL.isCall ?_; refine TL.call rfl rfl ?_; first | (refine (hadd _ hF.ext ⟨ys, ⟨yA, yn, yc, yl⟩⟩ (Fr.li hF (x := ⟨ys, ⟨yA, yn, yc, yl⟩⟩) (by repeat (first | exact memH | apply memT))).g hyn).mono ?_; rintro _ wc ⟨u, rfl, hLu, hE, hun⟩; replace hF := Fr.addLI (hF.exts hE) hLu; clear hE hLu; refine Back.mk ?_)) | (refine TL.isBin ?_; refine TL.cmpG rfl rfl rfl rfl (fun hc => ?_) (fun hc => ?_) <;> (try (first | (exfalso; omega) | exact absurd rfl hc))) | (apply TL.ev; (case hd => rfl); (case h => (first | exact ev_simple rfl | (apply Ev.isBin; first | exact ev_arN rfl rfl rfl (by omega)) | (apply Ev.isLoad; first | exact ev_loadFr hF rfl (by refine ⟨?_, ?_⟩; (focus (repeat (first | exact InV.head | apply InV.tail))); rfl) | exact ev_loadAFr hF rfl (by refine ⟨?_, ?_⟩; (focus (repeat (first | exact InV.head | apply InV.tail))); rfl)) | exact ev_len rfl | exact ev_fieldAddr rfl))) | (refine TL.storeAFr hF rfl rfl rfl rfl (by refine ⟨?_, ?_⟩; (focus (repeat (first | apply SetV.head | apply SetV.tail))); rfl) rfl ?_; clear hF; intro ws hF) | (refine TL.storeAtFr hF (f := ivc) u rfl rfl rfl rfl (fun _ => rfl) (by omega) (ivc_noV lz) (by repeat (first | apply SetV.head | apply SetV.tail)) ?_; clear hF; intro ws hF)) | (refine TF.is ?_; first | refine TF.nil ?_ | refine TF.e rfl ?_ | (refine TF.pick rfl ?_; first | (apply TFo.ev; (case hd => rfl); (case h => (intro wh hF; first | exact ev_simple rfl | (apply Ev.isBin; first | exact ev_arN rfl rfl rfl (by omega)) | (apply Ev.isLoad; first | exact ev_loadFr hF rfl (by refine ⟨?_, ?_⟩; (focus (repeat (first | exact InV.head | apply InV.tail))); rfl) | exact ev_loadAFr hF rfl (by refine ⟨?_, ?_⟩; (focus (repeat (first | exact InV.head | apply InV.tail))); rfl) | exact ev_loadMc [.bool ys, .slice yA yn yc] rfl (Fr.smB hF (b := bz) (l := lz) (by repeat (first | exact InV.head | apply InV.tail)) hlz) hy rfl) | exact ev_fieldAddr rfl | exact ev_indexM rfl rfl hp (.inr rfl)))))) | (refine T.is ?_; first | refine T.seq ?_ | refine T.region ?_ | refine T.cond_t rfl ?_ | refine T.ret ?_ | (refine T.regionFr hF 3 19 (.s 0 (.s 1 (.s 2 (.s 3 (.s 4 (.s 5 (.s 6 (.s 7 (.s 8 (.s 9 (.s 10 (.s 11 (.s 12 (.s 13 (.s 14 (.s 15 (.s 16 (.e 17 (.s 18 (.e 19 .nil)))))))))))))))))))) mixed (by kernel_rfl) ?_; clear hF; intro wr hF)) | (refine G.is ?_; first | refine G.next ?_ | refine G.only ?_ | refine G.treeEnd rfl ?_ | refine G.tree rfl (by first | exact hF | exact hF.weak (List.sublist_append_right _ _) (by repeat (first | exact allR | apply allT)) | exact hF.weak (by repeat (first | exact List.Sublist.refl _ | apply List.Sublist.cons)) (by repeat (first | exact allR | apply allT)) | exact hF.weak (by repeat (first | exact List.Sublist.refl _ | apply List.Sublist.cons)) (by repeat (first | exact allN | refine allH (by repeat (first | exact memH | apply memT)) ?_))) ?_) | refine TL.nil ?_)
  have hk := lk_put (LsK.mono (Fr.lk hF (i := n * n) (l := lz) (by repeat (first | exact memH | apply memT))) (show 1 ≤ xn + 2 by omega)) hlz hp (Fr.li hF (x := u) (by repeat (first | exact memH | apply memT))) (by dsimp only at hun; omega)
  refine G.retC1 rfl rfl (held_agg (hF.var (b := b8) (by repeat (first | exact InV.head | apply InV.tail))) rfl) ⟨⟨(n : Int), (n : Int), some ⟨bz, 0, none⟩, n * n, n * n, lz.set (i * n + j) u⟩, rfl, ⟨⟨rfl, rfl, hn, hn, rfl⟩, Fr.smB hF (b := bz) (l := lz.set (i * n + j) u) (by repeat (first | exact InV.head | apply InV.tail)) (by rw [List.length_set]; exact hlz), fun p q hp' hq' => ?_⟩, hF.ext, .inr ⟨bz, rfl, hbz2⟩⟩
  have h := hk (p * n + q) (place_lt hp' hq')
  dsimp only at h ⊢
  have e1 : (p * n + q) / n = p := by rw [Nat.mul_comm, Nat.mul_add_div (by omega), Nat.div_eq_of_lt hq', Nat.add_zero]
  have e2 : (p * n + q) % n = q := by rw [Nat.mul_comm, Nat.mul_add_mod, Nat.mod_eq_of_lt hq']
  have e3 : (i * n + j) / n = i := by rw [Nat.mul_comm, Nat.mul_add_div (by omega), Nat.div_eq_of_lt hj, Nat.add_zero]
  have e4 : (i * n + j) % n = j := by rw [Nat.mul_comm, Nat.mul_add_mod, Nat.mod_eq_of_lt hj]
  by_cases e : p * n + q = i * n + j
  · have h1 : p = i := by rw [← e1, e, e3]
    have h2 : q = j := by rw [← e2, e, e4]
    rw [if_pos e, hz1, e3, e4] at h
    unfold unF
    rw [show (if p = i ∧ q = j then v else (0 : Int)) = v from if_pos ⟨h1, h2⟩, show (if p = q then (1 : Int) else 0) = if i = j then 1 else 0 by rw [h1, h2]]
    exact h
  · rw [if_neg e, e1, e2] at h
    unfold unF
    rw [show (if p = i ∧ q = j then v else (0 : Int)) = 0 from if_neg (fun e' => e (by rw [e'.1, e'.2])), Int.add_zero]
    exact h
end Go.Proofs.YtlpheckjogphmaaGreat
namespace Go.Proofs.YtlpheckjogphmaaGreat
open Go Go.Eng Go.Proofs Go.NatM Go.RowKit
theorem cellTypes_mat : Tryz.prog.cellTypes Tryz.prog.depth 24 = some [3, 3, 22] := by kernel_rfl
theorem cell_int {P : Program} {W : World} {base : Nat} {t : TypeId} {z : Int} (ht : P.underlying t = some (.int .i64)) (h : Cell.okWide P W .any base t (.int .i64 z)) : -9223372036854775808 ≤ z ∧ z < 9223372036854775808 := by
  simp [Cell.okWide, Cell.ok, ht, IntKind.has, IntKind.min, IntKind.max, IntKind.signed, IntKind.bits] at h
  omega
set_option maxRecDepth 10000 in
theorem inR_of {W : World} {base : Nat} {y : MV} (hv : Value.okWide Tryz.prog W .any base 24 (.agg (mvc y).toArray)) : InR y := by
  simp only [Value.okWide, Tryz.underlying24] at hv
  obtain ⟨cs, e, _, ts, hts, _, hall⟩ := hv
  cases e
  rw [cellTypes_mat] at hts
  cases hts
  obtain ⟨u, hu, h0⟩ := hall 0 _ rfl
  cases hu
  obtain ⟨u, hu, h1⟩ := hall 1 _ rfl
  cases hu
  exact ⟨cell_int Tryz.underlying3 h0, cell_int Tryz.underlying3 h1⟩
set_option maxRecDepth 10000 in
theorem open_matI {H : Type} {enc : TypeId × Value → H} {W : World} {base base' : Nat} {spare : Nat → Bool} {held : Bool} {v : Value} {d : DataW H} {ps : List MemPlace}
    (hv : Value.okWide Tryz.prog W .any base' 24 v) (h : DataW.Trod enc Tryz.prog W base spare held 24 v d ps) :
    ∃ y : MV, v = .agg (mvc y).toArray ∧ (RM0 W.heap y ∧ InR y) ∧ wts ivw y.l ≤ Rows.uptoBulk d := by
  obtain ⟨y, e, r, m⟩ := open_mat hv h
  subst e
  exact ⟨y, rfl, ⟨r, inR_of hv⟩, m⟩
theorem small_matI {H : Array Obj} {y : MV} {b : Nat} (h : b ≤ 1048576) (r : RM0 H y ∧ InR y) (hn : wts ivw y.l ≤ b) : RM H y 1048576 ∧ InR y := ⟨small_mat h r.1 hn, r.2⟩
end Go.Proofs.YtlpheckjogphmaaGreat
namespace Go.Proofs.YtlpheckjogphmaaGreat
open Go Go.Eng Go.Proofs Go.NatM Go.ChangeShapes Go.WideShapes Go.ChangeAt Go.RowKit Go.Deep
structure CV where
  k : Int
  i : Int
  j : Int
  v : IV
deriving Inhabited
def cvc (x : CV) : List Value := [.int .i64 x.k, .int .i64 x.i, .int .i64 x.j, .bool x.v.neg, .slice x.v.m.A x.v.m.n x.v.m.c]
structure CG (H : Array Obj) (x : CV) : Prop where
  k : -9223372036854775808 ≤ x.k ∧ x.k < 9223372036854775808
  i : -9223372036854775808 ≤ x.i ∧ x.i < 9223372036854775808
  j : -9223372036854775808 ≤ x.j ∧ x.j < 9223372036854775808
  v : GI H x.v
end Go.Proofs.YtlpheckjogphmaaGreat
set_option linter.unusedSectionVars false
namespace Go.Eng
open Go Go.Proofs Go.NatM Go.RowKit Go.Proofs.YtlpheckjogphmaaGreat
def chZ (Z : ZF) (a : CV) : ZF := if a.k = 5 then updZ Z (a.i, a.j) (ival a.v) else if a.k = 8 then clrF Z a.i else if a.k = 6 then rowF Z a.i a.j (ival a.v) else swpF Z a.i a.j
def natF (Z : ZF) (p q : Nat) : Int := Z ((p : Int), (q : Int))
theorem psum_unF {n i j p : Nat} {v : Int} (f : Nat → Int) (hp : p < n) (hj : j < n) : psum (fun q => unF i j v p q * f q) n = f p + (if p = i then v * f j else 0) := by
  have e : ∀ q, unF i j v p q * f q = (if p = q then 1 else 0) * f q + (if p = i then v else 0) * ((if j = q then 1 else 0) * f q) := fun q => by
    unfold unF
    rw [Int.add_mul]
    congr 1
    by_cases h1 : p = i
    · by_cases h2 : j = q
      · subst h2; simp [h1]
      · rw [if_neg (fun h => h2 h.2.symm), if_pos h1, if_neg h2]; simp
    · rw [if_neg (fun h => h1 h.1), if_neg h1]; simp
  rw [psum_congr (g := fun q => (if p = q then 1 else 0) * f q + (if p = i then v else 0) * ((if j = q then 1 else 0) * f q)) (fun q _ => e q), psum_add, psum_mul, psum_unit, psum_unit, if_pos hp, if_pos hj]
  congr 1
  by_cases h1 : p = i
  · rw [if_pos h1, if_pos h1]
  · rw [if_neg h1, if_neg h1, Int.zero_mul]
theorem LM.moreF {H : Array Obj} {x : MV} {r c K K' : Nat} {F G : Nat → Nat → Int} (h : LM H x r c F K) (hk : K ≤ K') (e : ∀ i j, i < r → j < c → F i j = G i j) : LM H x r c G K' := ⟨h.sh, h.s, fun i j hi hj => by rw [← e i j hi hj]; exact ⟨(h.g i j hi hj).1, Nat.le_trans (h.g i j hi hj).2 hk⟩⟩
end Go.Eng
namespace Go.Proofs.YtlpheckjogphmaaGreat
open Go Go.Eng Go.Proofs Go.NatM Go.RowKit
def RetDY (w : World) (r c : Nat) (Z : ZF) (e : Ending) (w' : World) : Prop := ∃ z : MV, e = .returned (.tuple #[.agg (mvc z).toArray, .bool true]) ∧ LM w'.heap z r c (natF Z) 2097152 ∧ Ext w w' ∧ MF w z
set_option maxRecDepth 100000 in
theorem dense_set (w : World) (x : MV) (r c : Nat) (Z : ZF) (hx : LM w.heap x r c (natF Z) 16384) (a : CV) (ha : CG w.heap a) (hv : a.v.m.n ≤ 1048576) (hk : a.k = 5) (hi : 0 ≤ a.i ∧ a.i < (r : Int)) (hj : 0 ≤ a.j ∧ a.j < (c : Int)) :
    Cl Tryz.prog 14 #[.agg (mvc x).toArray, .agg (cvc a).toArray] w (RetDY w r c (chZ Z a)) := by
  have hle := fun w1 (hE : Ext w w1) => mleastV w1 x r c 16384 (hx.ext hE).gm (by omega)
  have hle2 := fun w1 (hE : Ext w w1) => zleast_ok w1 a.v (ha.v.ext hE) (by omega)
  have hent := fun p q (hp : p < r) (hq : q < c) => (hx.g p q hp hq).1.val
  have hs := hx.sh
  unfold chZ
  rw [if_pos hk]
  clear hx ha
  obtain ⟨xr, xc, A1, n1, k1, l1⟩ := x
  obtain ⟨hr1, hc1, hr, hcc, hn1⟩ := hs
  obtain ⟨k, i, j, v⟩ := a
  dsimp only at hr1 hc1 hn1 hle hle2 hk hi hj hv hent ⊢
  subst hr1 hc1 hn1 hk
  obtain ⟨vv, hvv⟩ : ∃ z, ival v = z := ⟨_, rfl⟩
  rw [hvv] at hle2 ⊢
  obtain ⟨vs, ⟨vA, vn, vc, vl⟩⟩ := v
  dsimp only at hle2 hv
  obtain ⟨i, rfl⟩ : ∃ n : Nat, i = (n : Int) := ⟨i.toNat, by omega⟩
  obtain ⟨j, rfl⟩ : ∃ n : Nat, j = (n : Int) := ⟨j.toNat, by omega⟩
  have hi' : i < r := by omega
  have hj' : j < c := by omega
  have hp := place_lt hi' hj'
  have hm := mul64 hr hcc
  have hic : i * c ≤ 4096 := by omega
  refine enter Tryz.func14 rfl rfl rfl ?_
  have hF := Fr.refl w
  repeat' (first | (refine TL.isOp ?_; first | (refine TL.isG ?_; first | refine TL.grun rfl rfl rfl ?_) | (refine TL.isCall ?_; refine TL.call rfl rfl ?_; first | (refine (hle _ hF.ext).mono ?_; rintro _ wz ⟨bz, lz, rfl, hVz, hlz, hgz, hE, hbz⟩; have hbz2 := Nat.le_trans hF.exs.size hbz; replace hF := Fr.addLK (hF.newGe hbz hVz hE) hgz; clear hE hgz hVz; refine Back.mk ?_) | (refine (hle2 _ hF.ext).mono ?_; rintro _ wc ⟨u, rfl, hLu, hE, hun⟩; replace hF := Fr.addLI (hF.exts hE) hLu; clear hE hLu; refine Back.mk ?_)) | (refine TL.isBin ?_; refine TL.cmpG rfl rfl rfl rfl (fun hc => ?_) (fun hc => ?_) <;> (try (first | (exfalso; omega) | exact absurd rfl hc))) | (apply TL.ev; (case hd => rfl); (case h => (first | exact ev_simple rfl | (apply Ev.isBin; first | exact ev_arN rfl rfl rfl (by omega)) | (apply Ev.isLoad; first | exact ev_loadFr hF rfl (by refine ⟨?_, ?_⟩; (focus (repeat (first | exact InV.head | apply InV.tail))); rfl) | exact ev_loadAFr hF rfl (by refine ⟨?_, ?_⟩; (focus (repeat (first | exact InV.head | apply InV.tail))); rfl)) | exact ev_len rfl | exact ev_fieldAddr rfl))) | (refine TL.storeAFr hF rfl rfl rfl rfl (by refine ⟨?_, ?_⟩; (focus (repeat (first | apply SetV.head | apply SetV.tail))); rfl) rfl ?_; clear hF; intro ws hF) | (refine TL.boxAFr hF (d := 2) (cs := [.int .i64 (r : Int), .int .i64 (c : Int), .slice A1 (r * c) k1]) rfl rfl ?_; clear hF; intro w2 b2 hF) | (refine TL.boxAFr hF (d := 3) (cs := [.int .i64 5, .int .i64 (i : Int), .int .i64 (j : Int), .bool vs, .slice vA vn vc]) rfl rfl ?_; clear hF; intro w3 b3 hF) | (refine TL.allocFr hF (d := 4) rfl rfl ?_; clear hF; intro w4 b4 hF) | (refine TL.allocFr hF (d := 6) rfl rfl ?_; clear hF; intro w6 b6 hF) | (refine TL.storeAtFr hF (f := ivc) u rfl rfl rfl rfl (fun _ => rfl) (by omega) (ivc_noV lz) (by repeat (first | apply SetV.head | apply SetV.tail)) ?_; clear hF; intro ws hF)) | (refine TF.is ?_; first | refine TF.nil ?_ | refine TF.e rfl ?_ | (refine TF.pick rfl ?_; first | (apply TFo.ev; (case hd => rfl); (case h => (intro wh hF; first | (apply Ev.isBin; first | exact ev_arN rfl rfl rfl (by omega)) | (apply Ev.isLoad; first | exact ev_loadFr hF rfl (by refine ⟨?_, ?_⟩; (focus (repeat (first | exact InV.head | apply InV.tail))); rfl) | exact ev_loadAFr hF rfl (by refine ⟨?_, ?_⟩; (focus (repeat (first | exact InV.head | apply InV.tail))); rfl)) | exact ev_fieldAddr rfl | exact ev_indexM rfl rfl hp (.inr rfl)))))) | (refine T.is ?_; first | refine T.seq ?_ | refine T.region ?_ | refine T.block ?_ | refine T.cond_t rfl ?_ | refine T.cond_f rfl ?_ | refine T.ret ?_ | refine T.skip ?_ | (refine T.regionFr hF 9 14 (.s 0 (.s 1 (.s 2 (.s 3 (.s 4 (.s 5 (.s 6 (.s 7 (.s 8 (.s 9 (.s 10 (.s 11 (.e 12 (.s 13 (.e 14 .nil))))))))))))))) mixed (by kernel_rfl) ?_; clear hF; intro wr hF)) | (refine G.is ?_; first | refine G.next ?_ | refine G.blockR ?_ | refine G.thenR ?_ | refine G.only ?_ | refine G.treeEnd rfl ?_ | refine G.tree rfl (by first | exact hF | exact hF.weak (List.sublist_append_right _ _) (by repeat (first | exact allR | apply allT)) | exact hF.weak (by repeat (first | exact List.Sublist.refl _ | apply List.Sublist.cons)) (by repeat (first | exact allR | apply allT)) | exact hF.weak (by repeat (first | exact List.Sublist.refl _ | apply List.Sublist.cons)) (by repeat (first | exact allN | refine allH (by repeat (first | exact memH | apply memT)) ?_))) ?_) | refine TL.nil ?_)
  have hk := lk_put (LsK.mono (Fr.lk hF (i := r * c) (l := lz) (by repeat (first | exact memH | apply memT))) (show 16384 ≤ 2097152 by omega)) hlz hp (Fr.li hF (x := u) (by repeat (first | exact memH | apply memT))) (by omega)
  refine G.retC2 rfl rfl rfl (held_agg (hF.var (b := b4) (by repeat (first | exact InV.head | apply InV.tail))) rfl) ⟨⟨(r : Int), (c : Int), some ⟨bz, 0, none⟩, r * c, r * c, lz.set (i * c + j) u⟩, rfl, ⟨⟨rfl, rfl, hr, hcc, rfl⟩, Fr.smB hF (b := bz) (l := lz.set (i * c + j) u) (by repeat (first | exact InV.head | apply InV.tail)) (by rw [List.length_set]; exact hlz), fun p q hp' hq' => ?_⟩, hF.ext, .inr ⟨bz, rfl, hbz2⟩⟩
  have h := hk (p * c + q) (place_lt hp' hq')
  dsimp only at h ⊢
  have e1 : (p * c + q) / c = p := by rw [Nat.mul_comm, Nat.mul_add_div (by omega), Nat.div_eq_of_lt hq', Nat.add_zero]
  have e2 : (p * c + q) % c = q := by rw [Nat.mul_comm, Nat.mul_add_mod, Nat.mod_eq_of_lt hq']
  have e3 : (i * c + j) / c = i := by rw [Nat.mul_comm, Nat.mul_add_div (by omega), Nat.div_eq_of_lt hj', Nat.add_zero]
  have e4 : (i * c + j) % c = j := by rw [Nat.mul_comm, Nat.mul_add_mod, Nat.mod_eq_of_lt hj']
  by_cases e : p * c + q = i * c + j
  · have h1 : p = i := by rw [← e1, e, e3]
    have h2 : q = j := by rw [← e2, e, e4]
    rw [if_pos e] at h
    unfold natF updZ
    rw [if_pos (by rw [h1, h2])]
    exact h
  · rw [if_neg e] at h
    unfold natF updZ
    rw [if_neg (fun e' => e (by have h1 := (Prod.mk.inj e').1; have h2 := (Prod.mk.inj e').2; rw [show p = i by omega, show q = j by omega]))]
    rw [hent p q hp' hq'] at h
    exact h
end Go.Proofs.YtlpheckjogphmaaGreat
namespace Go.Eng
open Go Go.RowKit
section
variable {P : Program} {R : Option Nat} {N : Fm} {Q : Exit → Act → World → Prop} {σ : Store} {w : World}
end
def shutAll : List Nat → World → World
  | [], w => w
  | D :: l, w => shutAll l (w.putObj D (.deferred none))
structure Marks (l : List Nat) (w : World) : Prop where
  nd : l.Nodup
  op : ∀ D ∈ l, w.heap[D]? = some (.deferred (some []))
theorem Marks.tail {D : Nat} {l : List Nat} {w : World} (h : Marks (D :: l) w) : Marks l (w.putObj D (.deferred none)) :=
  ⟨(List.nodup_cons.1 h.nd).2, fun E hE => (World.putObj_heap_other (fun e => by rw [e] at hE; exact (List.nodup_cons.1 h.nd).1 hE)).trans (h.op E (List.mem_cons_of_mem _ hE))⟩
theorem Marks.cx {B : Nat} : ∀ {l : List Nat} {w : World}, Marks l w → (∀ D ∈ l, B ≤ D) → Cx B w (shutAll l w)
  | [], w, _, _ => Cx.refl _ _
  | D :: l, w, h, hB => (Cx.shut (hB D (List.mem_cons_self ..)) (h.op D (List.mem_cons_self ..))).trans (h.tail.cx fun E hE => hB E (List.mem_cons_of_mem _ hE))
theorem Marks.cons {D : Nat} {l : List Nat} {w : World} (h : Marks l w) (hD : w.heap[D]? = some (.deferred (some []))) (hlt : ∀ E ∈ l, E < D) : Marks (D :: l) w :=
  ⟨List.nodup_cons.2 ⟨fun hm => Nat.lt_irrefl _ (hlt D hm), h.nd⟩, fun E hE => by
    rcases List.mem_cons.1 hE with rfl | hE
    · exact hD
    · exact h.op E hE⟩
theorem Marks.nil (w : World) : Marks [] w := ⟨List.nodup_nil, fun _ h => (by cases h)⟩
theorem Marks.keep {l : List Nat} {w w' : World} (h : Marks l w) (hK : KeepO w w') : Marks l w' := ⟨h.nd, fun D hD => hK.same D _ (h.op D hD) rfl⟩
theorem Marks.ext {l : List Nat} {w w' : World} (h : Marks l w) (hE : Ext w w') : Marks l w' := ⟨h.nd, fun D hD => (hE.block D (Array.getElem?_eq_some_iff.1 (h.op D hD)).1).trans (h.op D hD)⟩
theorem Marks.lt {l : List Nat} {w : World} (h : Marks l w) : ∀ D ∈ l, D < w.heap.size := fun D hD => (Array.getElem?_eq_some_iff.1 (h.op D hD)).1
section
variable {P : Program} {n : Nat} {σ : Store} {w : World} {fn : Func} {R : Ending → World → Prop}
end
end Go.Eng
