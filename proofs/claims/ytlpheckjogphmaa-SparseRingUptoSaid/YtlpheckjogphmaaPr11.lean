/- Layer 10: the sort of places. Layer 10: the contract of byRow. Layer 10: the sums of a product, in plain words. Layer 10: the contract of Mul (printed by genmul10.py). Layer 10: contracts over grids as functions. Layer 10: small things for SparseFull: the integer -1, products of one row, doubled numbers. Layer 10: grids as functions from places to numbers, with the number of places; the contracts in these words. -/
import Derived.Test.YtlpheckjogphmaaPr10
set_option linter.unusedVariables false
set_option linter.unusedSimpArgs false
set_option linter.unusedSectionVars false
namespace Go.Proofs.Ytlpheckjogphmaa
open Go Go.Eng Go.Proofs Go.NatM Go.RowKit Go.Sort

theorem cmpPl_lt (x y : (Int × Int) × IV) : cmpPl x y < 0 ↔ plt x.1 y.1 := by
  unfold cmpPl orI cmpI plt
  constructor
  · intro h
    (repeat' split at h) <;> omega
  · intro h
    (repeat' split) <;> omega
theorem plt_swo : SWO (ltOf cmpPl) where
  irrefl x := by
    have : ¬ cmpPl x x < 0 := fun h => by have := (cmpPl_lt x x).1 h; unfold plt at this; omega
    simp [ltOf, this]
  trans x y z h1 h2 := by
    unfold ltOf at *
    simp only [decide_eq_true_eq] at *
    rw [cmpPl_lt] at *
    unfold plt at *; omega
  ntrans x y z h1 h2 := by
    unfold ltOf at *
    simp only [decide_eq_false_iff_not] at *
    rw [cmpPl_lt] at *
    unfold plt at *; omega
theorem sorted_of {d : Array ((Int × Int) × IV)} (hs : SortedIn (ltOf cmpPl) 0 d.size d) (hn : (d.toList.map (·.1)).Nodup) : SortedPl d.toList := by
  unfold SortedPl
  rw [List.pairwise_iff_getElem]
  intro i j hi hj hij
  have h1 := hs i j (Nat.zero_le _) hij (by simpa using hj)
  have hi' : i < d.size := by simpa using hi
  have hj' : j < d.size := by simpa using hj
  rw [getElem!_pos d i hi', getElem!_pos d j hj'] at h1
  unfold ltOf at h1
  simp only [decide_eq_false_iff_not] at h1
  rw [cmpPl_lt] at h1
  have h2 : d[i].1 ≠ d[j].1 := fun e => by
    have := (List.nodup_iff_pairwise_ne.1 hn)
    rw [List.pairwise_iff_getElem] at this
    have h3 := this i j (by simpa using hi) (by simpa using hj) hij
    simp only [List.getElem_map, Array.getElem_toList] at h3
    exact h3 e
  simp only [Array.getElem_toList]
  generalize d[i].1 = a at *
  generalize d[j].1 = b at *
  obtain ⟨a1, a2⟩ := a
  obtain ⟨b1, b2⟩ := b
  unfold plt at *
  simp only [ne_eq, Prod.mk.injEq, not_and] at *
  omega
theorem sort_ok : SortOk := by
  intro w b c l zs hV hl hn
  have eg : ∀ args w, (callFunc 54 args).run Try.prog w = .ok (.enter 54 args) w := enters_of Try.func54 (by kernel_rfl) rfl
  have hcmp : CmpLays Try.prog 54 #[] plc 4 cmpPl b 0 l.toArray.size w := fun m os dk _ x y => (plcmp_ok _ x y).out.mono fun e w' ⟨he, hg⟩ => ⟨he, hg.grow⟩
  have hcon := AnyQ.slices_SortFunc Try.sortPl 4 Try.isAgg46 Try.sizeOf46 plc (fun _ => rfl) (fun x v hv => by simp [plc] at hv; rcases hv with rfl | rfl | rfl | rfl <;> rfl) cmpPl plt_swo 54 #[] b 0 c l.toArray w eg hcmp (holds_of hV) hV.lt (by simp; omega)
  have e0 : l.toArray.size = l.length := by simp
  rw [e0] at hcon
  change Calls Try.prog 53 _ _ _ at hcon
  refine Cl.of (hcon.mono ?_)
  rintro e w' ⟨rfl, d', n, os, hp, hs, rfl⟩
  have hsz : d'.size = l.length := by have := hp.1; simpa using this
  have hpm : d'.toList.Perm l := by
    have h1 := hp.2.2
    have e1 : (d'.extract 0 l.length) = d' := by rw [← hsz]; simp
    have e2 : (l.toArray.extract 0 l.length) = l.toArray := by
      rw [← e0]; exact Array.extract_size
    rw [e1, e2] at h1
    exact h1
  have hv := put_vr (n := n) os hV hsz
  rw [← hsz] at hs
  exact ⟨rfl, d'.toList, hpm, sorted_of hs (((hpm.map _).nodup_iff).2 hn), hv.1, hv.2⟩
end Go.Proofs.Ytlpheckjogphmaa

set_option linter.unusedSectionVars false
namespace Go.Eng
open Go Go.Proofs Go.NatM Go.RowKit Go.Proofs.Ytlpheckjogphmaa
abbrev S3 := Option Addr × Nat × Nat
def slc3 (x : S3) : Value := .slice x.1 x.2.1 x.2.2
/-- a row's places: its number, where the list lies, the list -/
abbrev RW := Int × S3 × GL
/-- finished rows -/
def dpRW (R : List RW) : DP := ⟨fun H => ∀ r ∈ R, Sm 4 plc H H.size r.2.1.1 r.2.1.2.1 r.2.1.2.2 r.2.2, fun k => ∃ r ∈ R, fpA r.2.1.1 r.2.1.2.1 k,
  fun H k h ⟨r, hr, hk⟩ => (h r hr).fp_lt hk, fun H H' hd h r hr => (Sm.de (fun b hb => ⟨r, hr, hb⟩) hd (h r hr)).size⟩
/-- the row that grows -/
abbrev CW := Option (Int × GL × Nat × Nat × List Value)
def curM : CW → List (Int × S3)
  | none => []
  | some (k, gl, b, c, _) => [(k, (some ⟨b, 0, none⟩, gl.length, c))]
def curL : CW → List VB
  | none => []
  | some (_, gl, b, _, zs) => [⟨b, 46, gl.flatMap plc ++ zs⟩]
def curG : CW → GL
  | none => []
  | some (_, gl, _, _, _) => gl
def curK : CW → Prop
  | none => True
  | some (k, gl, _, c, zs) => 0 < gl.length ∧ gl.length ≤ c ∧ zs.length = (c - gl.length) * 4 ∧ zs.all noU64 = true ∧ ∀ q ∈ gl, q.1.1 = k
def rowsG (R : List RW) : GL := R.flatMap (·.2.2)
def rowsM (R : List RW) : List (Int × S3) := R.map fun r => (r.1, r.2.1)
def rowOk (r : RW) : Prop := 0 < r.2.2.length ∧ r.2.1.2.1 = r.2.2.length ∧ ∀ q ∈ r.2.2, q.1.1 = r.1
section
variable {S : Nat → Prop} {w0 w w' : World} {L : List VB} {D : List DP}
theorem Fr.rw (hF : Fr w0 w L D S) {R : List RW} (h : dpRW R ∈ D) : ∀ r ∈ R, Sm 4 plc w.heap w.heap.size r.2.1.1 r.2.1.2.1 r.2.1.2.2 r.2.2 := hF.data _ h
theorem sm_ne {k : Nat} {α : Type} {f : α → List Value} {H : Array Obj} {A : Option Addr} {n c m B : Nat} {l : List α} {es : Array MapEntry} {x : Nat} (hs : Sm k f H B A n c l) (hm : H[m]? = some (.map es x)) : ¬ fpA A n m := fun ⟨hn, o, e⟩ => by
  have hl := hs.len
  have hp := hs.pos
  rcases hs.mem with h | ⟨b, o', e', _, hc⟩
  · omega
  · rw [e] at e'
    cases e'
    have hw := hs.wid l[0] (List.getElem_mem (by omega))
    have := hc 0 l[0] (List.getElem?_eq_getElem (by omega)) 0 (f l[0])[0] (List.getElem?_eq_getElem (by omega))
    unfold hcell at this
    rw [hm] at this
    cases this
theorem Fr.rw_mp (hF : Fr w0 w L D S) {R : List RW} (h : dpRW R ∈ D) {m : Nat} {K V : Type} [DecidableEq K] {f' : K → Value} {g' : V → Value} {l' : List (K × V)} (h2 : dpMp f' g' m l' ∈ D) : ¬ (dpRW R).fp m := fun ⟨r, hr, hk⟩ => by
  obtain ⟨es, x, hm, _⟩ := hF.mp h2
  exact sm_ne (hF.rw h r hr) hm hk
/-- a block of places that is written no more -/
theorem Fr.vbSm {gl : GL} {b c : Nat} {zs : List Value} (hF : Fr w0 w (⟨b, 46, gl.flatMap plc ++ zs⟩ :: L) D S) (hc : gl.length ≤ c) : Fr w0 w L (dpSmG 4 plc (some ⟨b, 0, none⟩) gl.length c gl :: D) S := by
  have hw := hF.weak (L := L) (D := D) (List.Sublist.cons _ (List.Sublist.refl _)) allR
  have hV := hF.var (b := b) .head
  refine hw.add _ (by unfold dpSmG; exact vr_sm (by decide) (fun _ _ => rfl) hV rfl hc hV.lt) fun v hv hk => ?_
  unfold dpSmG at hk
  obtain ⟨_, o, e⟩ := hk
  simp only [Option.some.injEq, Addr.mk.injEq] at e
  exact (List.pairwise_cons.1 hF.dist).1 v hv e.1
/-- the growing row is finished -/
theorem Fr.fin {R : List RW} {k : Int} {gl : GL} {b c : Nat} {zs : List Value} (hF : Fr w0 w (⟨b, 46, gl.flatMap plc ++ zs⟩ :: L) D S) (h : dpRW R ∈ D) (hc : gl.length ≤ c) : Fr w0 w L (dpRW (R ++ [(k, (some ⟨b, 0, none⟩, gl.length, c), gl)]) :: D) S := by
  have hw := hF.weak (L := L) (D := D) (List.Sublist.cons _ (List.Sublist.refl _)) allR
  have hV := hF.var (b := b) .head
  refine hw.add _ (fun r hr => ?_) fun v hv hk => ?_
  · rcases List.mem_append.1 hr with hr | hr
    · exact hF.rw h r hr
    · simp only [List.mem_cons, List.not_mem_nil, or_false] at hr
      subst hr
      exact vr_sm (by decide) (fun _ _ => rfl) hV rfl hc hV.lt
  · obtain ⟨r, hr, hk⟩ := hk
    rcases List.mem_append.1 hr with hr | hr
    · exact hF.apart v (List.mem_cons_of_mem _ hv) _ h ⟨r, hr, hk⟩
    · simp only [List.mem_cons, List.not_mem_nil, or_false] at hr
      subst hr
      obtain ⟨_, o, e⟩ := hk
      simp only [Option.some.injEq, Addr.mk.injEq] at e
      exact (List.pairwise_cons.1 hF.dist).1 v hv e.1
end
end Go.Eng
namespace Go.Proofs.Ytlpheckjogphmaa
open Go Go.Eng Go.Proofs Go.NatM Go.RowKit

theorem lkp_app {K V : Type} [DecidableEq K] : ∀ (a b : List (K × V)) (x : K), lkp (a ++ b) x = (lkp a x).or (lkp b x)
  | [], b, x => by simp [lkp]
  | (y, u) :: a, b, x => by
    simp only [List.cons_append, lkp]
    by_cases h : y = x <;> simp [h, lkp_app a b x]
theorem ups_last {K V : Type} [DecidableEq K] {a : List (K × V)} {x : K} {u : V} (h : x ∉ a.map (·.1)) (v : V) : ups (a ++ [(x, u)]) x v = a ++ [(x, v)] := by
  induction a with
  | nil => simp [ups]
  | cons p a ih =>
    simp only [List.map_cons, List.mem_cons, not_or] at h
    obtain ⟨y, z⟩ := p
    simp only [List.cons_append, ups]
    rw [if_neg fun e => h.1 e.symm, ih h.2]
section
variable {P : Program} {σ : Go.Eng.Store} {do_ : Option Tmp} {t : TypeId} {pos : String} {af : Array Edge} {gd : Option (Nat × Bool)} {S : Nat → Prop} {w0 w w' : World} {L : List VB} {D : List DP} {K V : Type} [DecidableEq K] {f : K → Value} {g : V → Value} {b : Nat} {l : List (K × V)}
theorem ev_mlookV (hF : Fr w0 w L D S) {x i : Operand} {ty k e : TypeId} [hT : UMap P ty k e] [hK : UKey P k K f] {z : Value} {sz b1 : Nat} [hS : USize P e z sz b1] {y : K} {v : V} (hx : Go.Eng.look σ x = some (.map (some b))) (hi : Go.Eng.look σ i = some (f y)) (hm : dpMp f g b l ∈ D) (h : lkp l y = some v) :
    Ev P σ w.heap ⟨do_, .lookup ty x i false, t, pos, af, gd⟩ (g v) := by
  have := ev_mlook (do_ := do_) (t := t) (pos := pos) (af := af) (gd := gd) (ty := ty) (P := P) hF hx hi hm
  rwa [h] at this
theorem ev_mlookS {l : List (K × S3)} (hF : Fr w0 w L D S) {x i : Operand} {ty k e : TypeId} [hT : UMap P ty k e] [hK : UKey P k K f] {z : Value} {sz b1 : Nat} [hS : USize P e z sz b1] {y : K} {A : Option Addr} {n c : Nat} (hx : Go.Eng.look σ x = some (.map (some b))) (hi : Go.Eng.look σ i = some (f y)) (hm : dpMp f slc3 b l ∈ D) (h : lkp l y = some (A, n, c)) :
    Ev P σ w.heap ⟨do_, .lookup ty x i false, t, pos, af, gd⟩ (.slice A n c) := ev_mlookV (g := slc3) hF hx hi hm h
theorem ev_mlookN (hF : Fr w0 w L D S) {x i : Operand} {ty k e : TypeId} [hT : UMap P ty k e] [hK : UKey P k K f] {z : Value} {sz b1 : Nat} [hS : USize P e z sz b1] {y : K} (hx : Go.Eng.look σ x = some (.map (some b))) (hi : Go.Eng.look σ i = some (f y)) (hm : dpMp f g b l ∈ D) (h : lkp l y = none) :
    Ev P σ w.heap ⟨do_, .lookup ty x i false, t, pos, af, gd⟩ z := by
  have := ev_mlook (do_ := do_) (t := t) (pos := pos) (af := af) (gd := gd) (ty := ty) (P := P) hF hx hi hm
  rwa [h] at this
end
/-- the rows of a sorted list: a map of them -/
def RetBy (w : World) (l : GL) (e : Ending) (w' : World) : Prop := ∃ (mb : Nat) (R : List RW) (ls : GL), e = .returned (.map (some mb)) ∧ w.heap.size ≤ mb ∧ Fr w w' [] [dpMp intk slc3 mb (rowsM R), dpRW R, dpGv ls] ∧ rowsG R = ls ∧ (∀ r ∈ R, rowOk r) ∧ (ls.map (·.1)).Nodup ∧ ls.length = l.length ∧ (∀ k, zk ls k = zk l k) ∧ ∀ r ∈ R, ∀ k, fpA r.2.1.1 r.2.1.2.1 k → w.heap.size ≤ k
theorem sorted_take {ls : GL} (h : SortedPl ls) {k : Nat} {p q : (Int × Int) × IV} (hp : ls[k]? = some p) (hq : q ∈ ls.take k) : plt q.1 p.1 := by
  obtain ⟨hlt, he⟩ := List.getElem?_eq_some_iff.1 hp
  have e : ls = ls.take k ++ p :: ls.drop (k + 1) := by rw [← he, ← List.drop_eq_getElem_cons hlt, List.take_append_drop]
  unfold SortedPl at h
  rw [e, List.pairwise_append] at h
  exact h.2.2 q hq p (List.mem_cons_self ..)
set_option maxHeartbeats 4000000 in
theorem gbyrow_ok (w : World) (g m r c : Nat) (l : GL) (hG : Gr w.heap g m r c l) (hl : l.length ≤ 1048576) : Cl Try.prog 60 #[.pointer (some ⟨g, 0, none⟩)] w (RetBy w l) := by
  have hF := Fr.mt (Fr.refS w fun _ => False) (dpGr g m r c l) (by unfold dpGr; exact hG)
  clear hG
  refine enter Try.func60 rfl rfl rfl ?_
  repeat' (first | (refine TL.isOp ?_; first | (refine TL.isCall ?_; refine TL.call rfl rfl ?_; first | (refine (gplaces_ok sort_ok _ g m r c l (hF.grOf (by repeat (first | exact memH | apply memT))) hl).mono ?_; rintro _ wy ⟨ls, bl, cl, zl, rfl, ⟨hc1, hc2, hc3⟩, hFl, hso, hnd, hlen, hzk⟩; replace hF := Fr.joinF hF hFl (fun d hd => by simp only [List.mem_cons, List.not_mem_nil, or_false] at hd; subst hd; exact fun k => nf_gv); clear hFl; refine Back.mk ?_)) | (apply TL.ev; (case hd => rfl); (case h => (first | exact ev_simple rfl | exact ev_len rfl))) | (refine TL.makeMpFr intk slc3 hF (d := 6) rfl ?_; have h6 := hF.exs.size; clear hF; intro w6 mb hm6 hF; replace h6 := Nat.le_trans h6 (Nat.le_of_eq hm6.symm); clear hm6)) | (refine T.is ?_; first | refine T.seq ?_ | refine T.region ?_ | refine T.block ?_) | (refine G.is ?_; first | refine G.next ?_) | refine TL.nil ?_)
  have hF1 := hF.vbSm hc1
  clear hF
  have hF := hF1.weak (D := [dpMp intk slc3 mb [], dpGv ls, dpSmG 4 plc (some ⟨bl, 0, none⟩) ls.length cl ls]) (List.Sublist.refl _) (allH (by repeat (first | exact memH | apply memT)) (allH (by repeat (first | exact memH | apply memT)) (allH (by repeat (first | exact memH | apply memT)) allN)))
  clear hF1
  refine T.loop (α := List RW × CW) (fun x => [(3, .map (some mb)), (8, .slice (some ⟨bl, 0, none⟩) ls.length cl), (9, .int .i64 (ls.length : Int)), (10, .int .i64 ((rowsG x.1 ++ curG x.2).length : Int))])
    (fun x w' => (rowsG x.1 ++ curG x.2 = ls.take (rowsG x.1 ++ curG x.2).length ∧ (∀ r ∈ x.1, rowOk r) ∧ curK x.2 ∧ (x.2 = none → x.1 = []) ∧ (∀ k gl, x.2 = some (k, gl) → ∀ r ∈ x.1, r.1 < k) ∧ ∀ r ∈ x.1, ∀ k, fpA r.2.1.1 r.2.1.2.1 k → w.heap.size ≤ k) ∧ Fr w w' (curL x.2) [dpMp intk slc3 mb (rowsM x.1 ++ curM x.2), dpRW x.1, dpSmG 4 plc (some ⟨bl, 0, none⟩) ls.length cl ls, dpGv ls]) (fun x => ls.length - (rowsG x.1 ++ curG x.2).length) ([], none) (by repeat (first | exact Sub.nil _ | refine Sub.cons rfl ?_ | refine Sub.cons' rfl (int_congr (by omega)) ?_)) ⟨⟨rfl, fun r hr => (by cases hr), trivial, fun _ => rfl, fun k gl h => (by cases h), fun r hr => (by cases hr)⟩, by
      have h0 : Fr w wy [] (dpRW [] :: _) _ := hF.add (dpRW []) (fun r hr => by cases hr) fun v hv => (by cases hv)
      exact h0.weak (List.Sublist.refl _) (allH (by repeat (first | exact memH | apply memT)) (allH (by repeat (first | exact memH | apply memT)) (allH (by repeat (first | exact memH | apply memT)) (allH (by repeat (first | exact memH | apply memT)) allN))))⟩ ?_
  clear hF
  rintro ⟨R, cur⟩ w1 ⟨⟨htk, hrk, hck, hcn, hlt, hfr⟩, hF⟩
  dsimp only at htk hrk hck hcn hlt hfr hF ⊢
  generalize hk : (rowsG R ++ curG cur).length = k at htk ⊢
  have hkl : k ≤ ls.length := by rw [← hk, htk, List.length_take]; omega
  rcases Nat.lt_or_ge k ls.length with hkn | hkn
  · obtain ⟨p, hp⟩ : ∃ p, ls[k]? = some p := ⟨_, List.getElem?_eq_getElem hkn⟩
    have hstep : ∀ (R' : List RW) (cur' : CW), rowsG R' ++ curG cur' = (rowsG R ++ curG cur) ++ [p] → (rowsG R' ++ curG cur').length = k + 1 ∧ rowsG R' ++ curG cur' = ls.take (k + 1) := fun R' cur' e => by
      rw [e, List.length_append, hk, take_snoc hp, htk]; exact ⟨rfl, rfl⟩
    have hkb : k + 1 < 9223372036854775808 := by omega
    rcases cur with _ | ⟨key, gl, b, cc, zs⟩
    · obtain rfl := hcn rfl
      have hno : lkp (rowsM [] ++ curM none) p.1.1 = none := rfl
      repeat' (first | (refine TL.isOp ?_; first | (refine TL.isBin ?_; refine TL.cmpG rfl rfl rfl rfl (fun hc => ?_) (fun hc => ?_) <;> (try (first | (exfalso; omega) | exact absurd rfl hc))) | (apply TL.ev; (case hd => rfl); (case h => (first | exact ev_simple rfl | (apply Ev.isBin; first | exact ev_arN rfl rfl rfl (by omega)) | (apply Ev.isLoad; first | exact ev_loadMc [.int .i64 p.1.1, .int .i64 p.1.2, .bool p.2.neg, .slice p.2.m.A p.2.m.n p.2.m.c] rfl (Fr.smG hF (l := ls) (by repeat (first | exact memH | apply memT))) hp rfl) | exact ev_indexM rfl rfl hkn (.inr rfl) | exact ev_mlookN hF (y := p.1.1) rfl rfl (by repeat (first | exact memH | apply memT)) hno))) | (refine TL.storeAFr hF rfl rfl rfl rfl (by refine ⟨?_, ?_⟩; (focus (repeat (first | apply SetV.head | apply SetV.tail))); rfl) rfl ?_; clear hF; intro ws hF) | (refine TL.allocFr hF (d := 5) rfl rfl ?_; clear hF; intro w5 b5 hF) | (refine TL.buildXs hF (f := plc) (d := 22) [p] [.tmp 21] rfl rfl rfl rfl (by intro u hu; rfl) rfl rfl (by omega) (by omega) ?_; clear hF; intro w22 b22 hF hEn hbn hSn) | (refine TL.appendNewFr hF plc rfl rfl rfl rfl hSn (fun _ => rfl) rfl rfl (by omega) (fun h0 => absurd h0 (by omega)) ?_; clear hF hSn; intro _ wa ba ca za hca hza hzan hF) | (refine TL.mupd hF (.inl h6) (nfC (hF.rw_mp (by repeat (first | exact memH | apply memT)) (by repeat (first | exact memH | apply memT))) (nfC (nf_smG (hF.sm_mp (by repeat (first | exact memH | apply memT)) (by repeat (first | exact memH | apply memT)))) (nfC nf_gv nfN))) (q := p.1.1) (v := (some ⟨ba, 0, none⟩, 1, ca)) rfl rfl rfl ?_; clear hF; intro wu hF)) | (refine TF.is ?_; first | refine TF.nil ?_ | refine TF.e rfl ?_ | refine TF.alt ?_ ?_ | (refine TF.pick rfl ?_; first | (apply TFo.ev; (case hd => rfl); (case h => (intro wh hF; first | exact ev_simple rfl | (apply Ev.isLoad; first | exact ev_loadFr hF rfl (by refine ⟨?_, ?_⟩; (focus (repeat (first | exact InV.head | apply InV.tail))); rfl) | exact ev_loadAFr hF rfl (by refine ⟨?_, ?_⟩; (focus (repeat (first | exact InV.head | apply InV.tail))); rfl)) | exact ev_fieldAddr rfl))))) | (refine T.is ?_; first | refine T.seq ?_ | refine T.region ?_ | refine T.block ?_ | refine T.cond_t rfl ?_ | refine T.skip ?_ | (refine T.regionFr hF 5 10 (.s 0 (.s 1 (.s 2 (.s 3 (.s 4 (.s 5 (.s 7 (.alt (.e 6 (.e 8 (.e 9 (.e 10 .nil)))) (.e 8 (.e 6 (.e 9 (.e 10 .nil)))))))))))) mixed (by kernel_rfl) ?_; clear hF; intro wr hF)) | (refine G.is ?_; first | refine G.next ?_ | refine G.blockN ?_ | refine G.only ?_ | refine G.treeEnd rfl ?_ | refine G.tree rfl (by first | exact hF | exact hF.weak (List.sublist_append_right _ _) (by repeat (first | exact allR | apply allT)) | exact hF.weak (by repeat (first | exact List.Sublist.refl _ | apply List.Sublist.cons)) (by repeat (first | exact allR | apply allT)) | exact hF.weak (by repeat (first | exact List.Sublist.refl _ | apply List.Sublist.cons)) (by repeat (first | exact allN | refine allH (by repeat (first | exact memH | apply memT)) ?_))) ?_) | refine TL.nil ?_)
      all_goals
        obtain ⟨e1, e2⟩ := hstep [] (some (p.1.1, [p], ba, ca, za)) rfl
        refine G.again ([], some (p.1.1, [p], ba, ca, za)) (by dsimp only; rw [e1]; exact (by repeat (first | exact Sub.nil _ | refine Sub.cons rfl ?_ | refine Sub.cons' rfl (int_congr (by omega)) ?_))) ⟨⟨by dsimp only; rw [e1]; exact e2, fun r hr => (by cases hr), ⟨Nat.one_pos, hca, hza, hzan, fun q hq => by simp only [List.mem_cons, List.not_mem_nil, or_false] at hq; rw [hq]⟩, fun h => (by cases h), fun k gl _ r hr => (by cases hr), hfr⟩, hF.weak (.cons_cons _ (List.nil_sublist _)) (allH (by repeat (first | exact memH | apply memT)) (allH (by repeat (first | exact memH | apply memT)) (allH (by repeat (first | exact memH | apply memT)) (allH (by repeat (first | exact memH | apply memT)) allN))))⟩ (by dsimp only; rw [e1]; omega)
    · obtain ⟨hc1', hc2', hc3', hc4', hc5'⟩ := hck
      have hlt' := hlt key (gl, b, cc, zs) rfl
      have hnk : key ∉ (rowsM R).map (·.1) := fun hm => by
        obtain ⟨q, hq, e⟩ := List.mem_map.1 hm
        obtain ⟨r, hr, rfl⟩ := List.mem_map.1 hq
        have := hlt' r hr
        dsimp only at e
        omega
      by_cases hky : p.1.1 = key
      · have hyes : lkp (rowsM R ++ curM (some (key, gl, b, cc, zs))) p.1.1 = some (some ⟨b, 0, none⟩, gl.length, cc) := by
          rw [lkp_app, hky, lkp_none.2 hnk]; simp [curM, lkp]
        have hup : ∀ v, ups (rowsM R ++ curM (some (key, gl, b, cc, zs))) p.1.1 v = rowsM R ++ [(key, v)] := fun v => by rw [hky]; exact ups_last hnk v
        have hgl : gl.length ≤ k := by rw [← hk, List.length_append]; exact Nat.le_add_left _ _
        repeat' (first | (refine TL.isOp ?_; first | (refine TL.isBin ?_; refine TL.cmpG rfl rfl rfl rfl (fun hc => ?_) (fun hc => ?_) <;> (try (first | (exfalso; omega) | exact absurd rfl hc))) | (apply TL.ev; (case hd => rfl); (case h => (first | exact ev_simple rfl | (apply Ev.isBin; first | exact ev_arN rfl rfl rfl (by omega)) | (apply Ev.isLoad; first | exact ev_loadMc [.int .i64 p.1.1, .int .i64 p.1.2, .bool p.2.neg, .slice p.2.m.A p.2.m.n p.2.m.c] rfl (Fr.smG hF (l := ls) (by repeat (first | exact memH | apply memT))) hp rfl) | exact ev_indexM rfl rfl hkn (.inr rfl) | exact ev_mlookS hF (y := p.1.1) rfl rfl (by repeat (first | exact memH | apply memT)) hyes))) | (refine TL.storeAFr hF rfl rfl rfl rfl (by refine ⟨?_, ?_⟩; (focus (repeat (first | apply SetV.head | apply SetV.tail))); rfl) rfl ?_; clear hF; intro ws hF) | (refine TL.allocFr hF (d := 5) rfl rfl ?_; clear hF; intro w5 b5 hF) | (refine TL.buildXs hF (f := plc) (d := 22) [p] [.tmp 21] rfl rfl rfl rfl (by intro u hu; rfl) rfl rfl (by omega) (by omega) ?_; clear hF; intro w22 b22 hF hEn hbn hSn) | (refine TL.appendAtFr (f := plc) (l := gl) (zs := zs) hF rfl rfl rfl rfl hSn (fun _ => rfl) (fun _ => rfl) rfl rfl rfl hc3' hc2' (plc_no _ hc4') (by omega) (by repeat (first | exact SetV.head | apply SetV.tail)) (fun hle wa hFn => ?_) (fun hgt wa ba ca za hca hza hzan hFn => ?_) <;> clear hF hSn <;> have hF := hFn <;> clear hFn) | (refine TL.mupd hF (.inl h6) (nfC (hF.rw_mp (by repeat (first | exact memH | apply memT)) (by repeat (first | exact memH | apply memT))) (nfC (nf_smG (hF.sm_mp (by repeat (first | exact memH | apply memT)) (by repeat (first | exact memH | apply memT)))) (nfC nf_gv nfN))) (q := p.1.1) (v := (some ⟨b, 0, none⟩, gl.length + 1, cc)) rfl rfl rfl ?_; clear hF; intro wu hF) | (refine TL.mupd hF (.inl h6) (nfC (hF.rw_mp (by repeat (first | exact memH | apply memT)) (by repeat (first | exact memH | apply memT))) (nfC (nf_smG (hF.sm_mp (by repeat (first | exact memH | apply memT)) (by repeat (first | exact memH | apply memT)))) (nfC nf_gv nfN))) (q := p.1.1) (v := (some ⟨ba, 0, none⟩, gl.length + 1, ca)) rfl rfl rfl ?_; clear hF; intro wu hF)) | (refine TF.is ?_; first | refine TF.nil ?_ | refine TF.e rfl ?_ | refine TF.alt ?_ ?_ | (refine TF.pick rfl ?_; first | (apply TFo.ev; (case hd => rfl); (case h => (intro wh hF; first | exact ev_simple rfl | (apply Ev.isLoad; first | exact ev_loadFr hF rfl (by refine ⟨?_, ?_⟩; (focus (repeat (first | exact InV.head | apply InV.tail))); rfl) | exact ev_loadAFr hF rfl (by refine ⟨?_, ?_⟩; (focus (repeat (first | exact InV.head | apply InV.tail))); rfl)) | exact ev_fieldAddr rfl))))) | (refine T.is ?_; first | refine T.seq ?_ | refine T.region ?_ | refine T.block ?_ | refine T.cond_t rfl ?_ | refine T.skip ?_ | (refine T.regionFt hF.swap 5 10 (.s 0 (.s 1 (.s 2 (.s 3 (.s 4 (.s 5 (.s 7 (.alt (.e 6 (.e 8 (.e 9 (.e 10 .nil)))) (.e 8 (.e 6 (.e 9 (.e 10 .nil)))))))))))) mixed (by kernel_rfl) ?_; clear hF; intro wr hF)) | (refine G.is ?_; first | refine G.next ?_ | refine G.blockN ?_ | refine G.only ?_ | refine G.treeEnd rfl ?_ | refine G.tree rfl (by first | exact hF | exact hF.weak (List.sublist_append_right _ _) (by repeat (first | exact allR | apply allT)) | exact hF.weak (by repeat (first | exact List.Sublist.refl _ | apply List.Sublist.cons)) (by repeat (first | exact allR | apply allT)) | exact hF.weak (by repeat (first | exact List.Sublist.refl _ | apply List.Sublist.cons)) (by repeat (first | exact allN | refine allH (by repeat (first | exact memH | apply memT)) ?_))) ?_) | refine TL.nil ?_)
        all_goals
          first
          | (obtain ⟨e1, e2⟩ := hstep R (some (key, gl ++ [p], b, cc, zs.drop (1 * 4))) (by simp only [curG, List.append_assoc])
             rw [hup] at hF
             have hgp : (gl ++ [p]).length = gl.length + 1 := by simp
             refine G.again (R, some (key, gl ++ [p], b, cc, zs.drop (1 * 4))) (by dsimp only; rw [e1]; exact (by repeat (first | exact Sub.nil _ | refine Sub.cons rfl ?_ | refine Sub.cons' rfl (int_congr (by omega)) ?_))) ⟨⟨by dsimp only; rw [e1]; exact e2, hrk, ⟨by rw [hgp]; omega, by rw [hgp]; exact hle, by rw [List.length_drop, hgp, hc3']; omega, drop_noV hc4' _, fun q hq => by
               rcases List.mem_append.1 hq with hq | hq
               · exact hc5' q hq
               · simp only [List.mem_cons, List.not_mem_nil, or_false] at hq
                 rw [hq]; exact hky⟩, fun h => (by cases h), fun k gl2 e r hr => by simp only [Option.some.injEq, Prod.mk.injEq] at e; rw [← e.1]; exact hlt' r hr, hfr⟩, ?_⟩ (by dsimp only; rw [e1]; omega)
             have hF2 := hF.weak (L := [⟨b, 46, (gl ++ [p]).flatMap plc ++ zs.drop (1 * 4)⟩]) (D := [dpMp intk slc3 mb (rowsM R ++ [(key, (some ⟨b, 0, none⟩, gl.length + 1, cc))]), dpRW R, dpSmG 4 plc (some ⟨bl, 0, none⟩) ls.length cl ls, dpGv ls]) (.cons_cons _ (List.nil_sublist _)) (allH (by repeat (first | exact memH | apply memT)) (allH (by repeat (first | exact memH | apply memT)) (allH (by repeat (first | exact memH | apply memT)) (allH (by repeat (first | exact memH | apply memT)) allN))))
             dsimp only [curL, curM]
             rw [hgp]
             exact hF2)
          | (obtain ⟨e1, e2⟩ := hstep R (some (key, gl ++ [p], ba, ca, za)) (by simp only [curG, List.append_assoc])
             rw [hup] at hF
             have hgp : (gl ++ [p]).length = gl.length + 1 := by simp
             refine G.again (R, some (key, gl ++ [p], ba, ca, za)) (by dsimp only; rw [e1]; exact (by repeat (first | exact Sub.nil _ | refine Sub.cons rfl ?_ | refine Sub.cons' rfl (int_congr (by omega)) ?_))) ⟨⟨by dsimp only; rw [e1]; exact e2, hrk, ⟨by rw [hgp]; omega, by rw [hgp]; exact hca, by rw [hgp]; exact hza, hzan, fun q hq => by
               rcases List.mem_append.1 hq with hq | hq
               · exact hc5' q hq
               · simp only [List.mem_cons, List.not_mem_nil, or_false] at hq
                 rw [hq]; exact hky⟩, fun h => (by cases h), fun k gl2 e r hr => by simp only [Option.some.injEq, Prod.mk.injEq] at e; rw [← e.1]; exact hlt' r hr, hfr⟩, ?_⟩ (by dsimp only; rw [e1]; omega)
             have hF2 := hF.weak (L := [⟨ba, 46, (gl ++ [p]).flatMap plc ++ za⟩]) (D := [dpMp intk slc3 mb (rowsM R ++ [(key, (some ⟨ba, 0, none⟩, gl.length + 1, ca))]), dpRW R, dpSmG 4 plc (some ⟨bl, 0, none⟩) ls.length cl ls, dpGv ls]) (.cons_cons _ (List.nil_sublist _)) (allH (by repeat (first | exact memH | apply memT)) (allH (by repeat (first | exact memH | apply memT)) (allH (by repeat (first | exact memH | apply memT)) (allH (by repeat (first | exact memH | apply memT)) allN))))
             dsimp only [curL, curM]
             rw [hgp]
             exact hF2)
      · have hkp : key < p.1.1 := by
          obtain ⟨q, hq⟩ : ∃ q, q ∈ gl := ⟨gl[0], List.getElem_mem hc1'⟩
          have h1 : q ∈ ls.take k := by rw [← htk]; exact List.mem_append_right _ hq
          have h2 := sorted_take hso hp h1
          have h3 := hc5' q hq
          unfold plt at h2
          omega
        have hno : lkp (rowsM R ++ curM (some (key, gl, b, cc, zs))) p.1.1 = none := lkp_none.2 fun hm => by
          rw [List.map_append] at hm
          rcases List.mem_append.1 hm with hm | hm
          · obtain ⟨q, hq, e⟩ := List.mem_map.1 hm
            obtain ⟨r, hr, rfl⟩ := List.mem_map.1 hq
            have := hlt' r hr
            dsimp only at e
            omega
          · simp only [curM, List.map_cons, List.map_nil, List.mem_cons, List.not_mem_nil, or_false] at hm
            omega
        have hup : ∀ v, ups (rowsM R ++ curM (some (key, gl, b, cc, zs))) p.1.1 v = rowsM (R ++ [(key, (some ⟨b, 0, none⟩, gl.length, cc), gl)]) ++ [(p.1.1, v)] := fun v => by
          rw [ups_new (lkp_none.1 hno) v]; simp [rowsM, curM]
        repeat' (first | (refine TL.isOp ?_; first | (refine TL.isBin ?_; refine TL.cmpG rfl rfl rfl rfl (fun hc => ?_) (fun hc => ?_) <;> (try (first | (exfalso; omega) | exact absurd rfl hc))) | (apply TL.ev; (case hd => rfl); (case h => (first | exact ev_simple rfl | (apply Ev.isBin; first | exact ev_arN rfl rfl rfl (by omega)) | (apply Ev.isLoad; first | exact ev_loadMc [.int .i64 p.1.1, .int .i64 p.1.2, .bool p.2.neg, .slice p.2.m.A p.2.m.n p.2.m.c] rfl (Fr.smG hF (l := ls) (by repeat (first | exact memH | apply memT))) hp rfl) | exact ev_indexM rfl rfl hkn (.inr rfl) | exact ev_mlookN hF (y := p.1.1) rfl rfl (by repeat (first | exact memH | apply memT)) hno))) | (refine TL.storeAFr hF rfl rfl rfl rfl (by refine ⟨?_, ?_⟩; (focus (repeat (first | apply SetV.head | apply SetV.tail))); rfl) rfl ?_; clear hF; intro ws hF) | (refine TL.allocFr hF (d := 5) rfl rfl ?_; clear hF; intro w5 b5 hF) | (refine TL.buildXs hF (f := plc) (d := 22) [p] [.tmp 21] rfl rfl rfl rfl (by intro u hu; rfl) rfl rfl (by omega) (by omega) ?_; clear hF; intro w22 b22 hF hEn hbn hSn) | (refine TL.appendNewFr hF plc rfl rfl rfl rfl hSn (fun _ => rfl) rfl rfl (by omega) (fun h0 => absurd h0 (by omega)) ?_; clear hF hSn; intro _ wa ba ca za hca hza hzan hF) | (refine TL.mupd hF (.inl h6) (nfC (hF.rw_mp (by repeat (first | exact memH | apply memT)) (by repeat (first | exact memH | apply memT))) (nfC (nf_smG (hF.sm_mp (by repeat (first | exact memH | apply memT)) (by repeat (first | exact memH | apply memT)))) (nfC nf_gv nfN))) (q := p.1.1) (v := (some ⟨ba, 0, none⟩, 1, ca)) rfl rfl rfl ?_; clear hF; intro wu hF)) | (refine TF.is ?_; first | refine TF.nil ?_ | refine TF.e rfl ?_ | refine TF.alt ?_ ?_ | (refine TF.pick rfl ?_; first | (apply TFo.ev; (case hd => rfl); (case h => (intro wh hF; first | exact ev_simple rfl | (apply Ev.isLoad; first | exact ev_loadFr hF rfl (by refine ⟨?_, ?_⟩; (focus (repeat (first | exact InV.head | apply InV.tail))); rfl) | exact ev_loadAFr hF rfl (by refine ⟨?_, ?_⟩; (focus (repeat (first | exact InV.head | apply InV.tail))); rfl)) | exact ev_fieldAddr rfl))))) | (refine T.is ?_; first | refine T.seq ?_ | refine T.region ?_ | refine T.block ?_ | refine T.cond_t rfl ?_ | refine T.skip ?_ | (refine T.regionFr hF 5 10 (.s 0 (.s 1 (.s 2 (.s 3 (.s 4 (.s 5 (.s 7 (.alt (.e 6 (.e 8 (.e 9 (.e 10 .nil)))) (.e 8 (.e 6 (.e 9 (.e 10 .nil)))))))))))) mixed (by kernel_rfl) ?_; clear hF; intro wr hF)) | (refine G.is ?_; first | refine G.next ?_ | refine G.blockN ?_ | refine G.only ?_ | refine G.treeEnd rfl ?_ | refine G.tree rfl (by first | exact hF | exact hF.weak (List.sublist_append_right _ _) (by repeat (first | exact allR | apply allT)) | exact hF.weak (by repeat (first | exact List.Sublist.refl _ | apply List.Sublist.cons)) (by repeat (first | exact allR | apply allT)) | exact hF.weak (by repeat (first | exact List.Sublist.refl _ | apply List.Sublist.cons)) (by repeat (first | exact allN | refine allH (by repeat (first | exact memH | apply memT)) ?_))) ?_) | refine TL.nil ?_)
        all_goals
          obtain ⟨e1, e2⟩ := hstep (R ++ [(key, (some ⟨b, 0, none⟩, gl.length, cc), gl)]) (some (p.1.1, [p], ba, ca, za)) (by simp [rowsG, curG])
          rw [hup] at hF
          have hF2 := (hF.rotL).fin (R := R) (k := key) (by repeat (first | exact memH | apply memT)) hc2'
          refine G.again (R ++ [(key, (some ⟨b, 0, none⟩, gl.length, cc), gl)], some (p.1.1, [p], ba, ca, za)) (by dsimp only; rw [e1]; exact (by repeat (first | exact Sub.nil _ | refine Sub.cons rfl ?_ | refine Sub.cons' rfl (int_congr (by omega)) ?_))) ⟨⟨by dsimp only; rw [e1]; exact e2, fun r hr => ?_, ⟨Nat.one_pos, hca, hza, hzan, fun q hq => by simp only [List.mem_cons, List.not_mem_nil, or_false] at hq; rw [hq]⟩, fun h => (by cases h), fun k2 gl2 e r hr => ?_, fun r hr => ?_⟩, hF2.weak (.cons_cons _ (List.nil_sublist _)) (allH (by repeat (first | exact memH | apply memT)) (allH (by repeat (first | exact memH | apply memT)) (allH (by repeat (first | exact memH | apply memT)) (allH (by repeat (first | exact memH | apply memT)) allN))))⟩ (by dsimp only; rw [e1]; omega)
          · rcases List.mem_append.1 hr with hr | hr
            · exact hrk r hr
            · simp only [List.mem_cons, List.not_mem_nil, or_false] at hr
              subst hr
              exact ⟨hc1', rfl, hc5'⟩
          · simp only [Option.some.injEq, Prod.mk.injEq] at e
            rw [← e.1]
            rcases List.mem_append.1 hr with hr | hr
            · have := hlt' r hr; omega
            · simp only [List.mem_cons, List.not_mem_nil, or_false] at hr
              subst hr
              exact hkp
          · rcases List.mem_append.1 hr with hr | hr
            · exact hfr r hr
            · simp only [List.mem_cons, List.not_mem_nil, or_false] at hr
              subst hr
              rintro k3 ⟨_, o, e⟩
              cases e
              exact (hF.lo (.tail (.tail .head))).resolve_right id
  · have hkl2 : k = ls.length := Nat.le_antisymm hkl hkn
    rw [hkl2, List.take_length] at htk
    repeat' (first | (refine TL.isOp ?_; first | (refine TL.isBin ?_; refine TL.cmpG rfl rfl rfl rfl (fun hc => ?_) (fun hc => ?_) <;> (try (first | (exfalso; omega) | exact absurd rfl hc))) | (apply TL.ev; (case hd => rfl); (case h => (first | exact ev_simple rfl)))) | (refine T.is ?_; first | refine T.seq ?_ | refine T.region ?_ | refine T.cond_f rfl ?_ | refine T.exit ?_ | refine T.ret ?_) | (refine G.is ?_; first | refine G.next ?_ | refine G.blockE ?_ | refine G.thenE ?_) | refine TL.nil ?_)
    rcases cur with _ | ⟨key, gl, b, cc, zs⟩
    · obtain rfl := hcn rfl
      refine G.ret1 rfl rfl ⟨mb, [], ls, rfl, h6, hF.weak (List.Sublist.refl _) (allH (by repeat (first | exact memH | apply memT)) (allH (by repeat (first | exact memH | apply memT)) (allH (by repeat (first | exact memH | apply memT)) allN))), htk, fun r hr => (by cases hr), hnd, hlen, hzk, hfr⟩
    · obtain ⟨hc1', hc2', hc3', hc4', hc5'⟩ := hck
      have hF2 := hF.fin (R := R) (k := key) (by repeat (first | exact memH | apply memT)) hc2'
      refine G.ret1 rfl rfl ⟨mb, R ++ [(key, (some ⟨b, 0, none⟩, gl.length, cc), gl)], ls, rfl, h6, ?_, ?_, fun r hr => ?_, hnd, hlen, hzk, fun r hr => ?_⟩
      · have e : rowsM (R ++ [(key, (some ⟨b, 0, none⟩, gl.length, cc), gl)]) = rowsM R ++ curM (some (key, gl, b, cc, zs)) := by simp [rowsM, curM]
        rw [e]
        exact hF2.weak (List.Sublist.refl _) (allH (by repeat (first | exact memH | apply memT)) (allH (by repeat (first | exact memH | apply memT)) (allH (by repeat (first | exact memH | apply memT)) allN)))
      · rw [← htk]; simp [rowsG, curG]
      · rcases List.mem_append.1 hr with hr | hr
        · exact hrk r hr
        · simp only [List.mem_cons, List.not_mem_nil, or_false] at hr
          subst hr
          exact ⟨hc1', rfl, hc5'⟩
      · rcases List.mem_append.1 hr with hr | hr
        · exact hfr r hr
        · simp only [List.mem_cons, List.not_mem_nil, or_false] at hr
          subst hr
          rintro k3 ⟨_, o, e⟩
          cases e
          exact (hF.lo .head).resolve_right id
end Go.Proofs.Ytlpheckjogphmaa

set_option linter.unusedSectionVars false
namespace Go.Eng
open Go Go.Proofs Go.NatM Go.RowKit Go.Proofs.Ytlpheckjogphmaa
/-- sums by columns -/
abbrev SL := List (Int × IV)
def sz (s : SL) (j : Int) : Int := ival ((lkp s j).getD iv0)
theorem sz_ups (s : SL) (i : Int) (y : IV) (j : Int) : sz (ups s i y) j = if i = j then ival y else sz s j := by
  unfold sz
  rw [lkp_ups]
  by_cases h : i = j <;> simp [h]
theorem sz_some {s : SL} {j : Int} {y : IV} (h : lkp s j = some y) : sz s j = ival y := by unfold sz; rw [h]; rfl
/-- a row times a grid, at a column -/
def rs (gl l2 : GL) (j : Int) : Int := (gl.map fun p => ival p.2 * zv l2 (p.1.2, j)).sum
theorem rs_snoc (gl l2 : GL) (p : (Int × Int) × IV) (j : Int) : rs (gl ++ [p]) l2 j = rs gl l2 j + ival p.2 * zv l2 (p.1.2, j) := by simp [rs, List.sum_append]
/-- a row's number at a column -/
def cs (gl : GL) (j : Int) : Int := (gl.map fun q => if q.1.2 = j then ival q.2 else 0).sum
theorem cs_snoc (gl : GL) (q : (Int × Int) × IV) (j : Int) : cs (gl ++ [q]) j = cs gl j + if q.1.2 = j then ival q.2 else 0 := by simp [cs, List.sum_append]
theorem cs_zv {k : Int} : ∀ {gl : GL}, (gl.map (·.1)).Nodup → (∀ q ∈ gl, q.1.1 = k) → ∀ j, cs gl j = zv gl (k, j)
  | [], _, _, j => rfl
  | q :: gl, hn, hk, j => by
    simp only [List.map_cons, List.nodup_cons] at hn
    have ih := cs_zv hn.2 (fun q' hq => hk q' (List.mem_cons_of_mem _ hq)) j
    have h1 : cs (q :: gl) j = (if q.1.2 = j then ival q.2 else 0) + cs gl j := by simp [cs]
    have hq := hk q (List.mem_cons_self ..)
    obtain ⟨⟨q1, q2⟩, qv⟩ := q
    simp only at hq
    subst hq
    rw [h1]
    by_cases hj : q2 = j
    · subst hj
      rw [if_pos rfl, ih]
      have e1 : zv gl (q1, q2) = 0 := zv_none (lkp_none.2 hn.1)
      rw [e1]
      have e2 : lkp (((q1, q2), qv) :: gl) (q1, q2) = some qv := by simp [lkp]
      rw [zv_some e2]; simp
    · rw [if_neg hj, ih]
      unfold zv at0
      simp [lkp, hj]
/-- the product's numbers -/
def mulZ (l l2 : GL) (k : Int × Int) : Int := (l.map fun p => if p.1.1 = k.1 then ival p.2 * zv l2 (p.1.2, k.2) else 0).sum
theorem mulZ_rs (l l2 : GL) (x y : Int) : mulZ l l2 (x, y) = rs (inRow x l) l2 y := by
  unfold mulZ rs inRow
  induction l with
  | nil => rfl
  | cons p l ih =>
    simp only [List.map_cons, List.sum_cons, List.filter_cons]
    by_cases h : p.1.1 = x
    · simp only [h, if_true, decide_true, List.map_cons, List.sum_cons]
      simp only at ih
      rw [ih]
    · simp only [h, if_false, decide_false, Bool.false_eq_true, Int.zero_add]
      exact ih
theorem perm_of_zk {l ls : GL} (hn : (l.map (·.1)).Nodup) (hs : (ls.map (·.1)).Nodup) (h : ∀ k, zk ls k = zk l k) : (ls.map fun p => (p.1, ival p.2)).Perm (l.map fun p => (p.1, ival p.2)) := by
  have hnd : ∀ {a : GL}, (a.map (·.1)).Nodup → (a.map fun p => (p.1, ival p.2)).Nodup := fun {a} ha => by
    have : ((a.map fun p => (p.1, ival p.2)).map (·.1)).Nodup := by simpa [List.map_map, Function.comp_def] using ha
    exact (List.pairwise_map.1 this).imp fun hne e => hne (congrArg _ e)
  refine (List.perm_ext_iff_of_nodup (hnd hs) (hnd hn)).2 fun x => ?_
  have hm : ∀ {a : GL}, (a.map (·.1)).Nodup → (x ∈ (a.map fun p => (p.1, ival p.2)) ↔ zk a x.1 = some x.2) := fun {a} ha => by
    unfold zk
    constructor
    · intro hx
      obtain ⟨p, hp, rfl⟩ := List.mem_map.1 hx
      rw [lkp_of_mem (x := p.1) (v := p.2) ha hp]; rfl
    · intro hx
      cases hq : lkp a x.1 with
      | none => rw [hq] at hx; cases hx
      | some y =>
        rw [hq] at hx
        simp only [Option.map_some, Option.some.injEq] at hx
        exact List.mem_map.2 ⟨(x.1, y), lkp_mem hq, by rw [hx]⟩
  rw [hm hs, hm hn, h]
theorem zv_of_zk {l ls : GL} (h : ∀ k, zk ls k = zk l k) (k : Int × Int) : zv ls k = zv l k := by rw [zv_zk, zv_zk, h]
theorem perm_sum {a b : List Int} (h : a.Perm b) : a.sum = b.sum := by
  induction h with
  | nil => rfl
  | cons x _ ih => simp [ih]
  | swap x y l => simp only [List.sum_cons]; omega
  | trans _ _ h1 h2 => exact h1.trans h2
theorem mulZ_congr {l ls l2 ls2 : GL} (hn : (l.map (·.1)).Nodup) (hs : (ls.map (·.1)).Nodup) (h : ∀ k, zk ls k = zk l k) (h2 : ∀ k, zk ls2 k = zk l2 k) (k : Int × Int) : mulZ ls ls2 k = mulZ l l2 k := by
  have hp := (perm_of_zk hn hs h).map fun q : (Int × Int) × Int => if q.1.1 = k.1 then q.2 * zv l2 (q.1.2, k.2) else 0
  rw [List.map_map, List.map_map] at hp
  have := perm_sum hp
  unfold mulZ
  have e : (fun p : (Int × Int) × IV => if p.1.1 = k.1 then ival p.2 * zv ls2 (p.1.2, k.2) else 0) = (fun p => if p.1.1 = k.1 then ival p.2 * zv l2 (p.1.2, k.2) else 0) := by
    funext p; rw [zv_of_zk h2]
  rw [e]
  exact this
/-- the rows of a list of rows -/
theorem inRow_rows : ∀ {R : List RW}, (R.map (·.1)).Nodup → (∀ r ∈ R, ∀ q ∈ r.2.2, q.1.1 = r.1) → ∀ r ∈ R, inRow r.1 (rowsG R) = r.2.2
  | [], _, _, r, hr => by cases hr
  | r0 :: R, hn, hk, r, hr => by
    simp only [List.map_cons, List.nodup_cons] at hn
    have e : inRow r.1 (rowsG (r0 :: R)) = inRow r.1 r0.2.2 ++ inRow r.1 (rowsG R) := by simp [inRow, rowsG, List.filter_append]
    rw [e]
    rcases List.mem_cons.1 hr with rfl | hr
    · have h1 : inRow r.1 r.2.2 = r.2.2 := List.filter_eq_self.2 fun q hq => by simp [hk r (List.mem_cons_self ..) q hq]
      have h2 : inRow r.1 (rowsG R) = [] := List.filter_eq_nil_iff.2 fun q hq => by
        obtain ⟨r', hr', hq'⟩ := List.mem_flatMap.1 hq
        have := hk r' (List.mem_cons_of_mem _ hr') q hq'
        simp only [decide_eq_true_eq]
        intro e
        exact hn.1 (List.mem_map.2 ⟨r', hr', by rw [← this, e]⟩)
      rw [h1, h2, List.append_nil]
    · have h1 : inRow r.1 r0.2.2 = [] := List.filter_eq_nil_iff.2 fun q hq => by
        have := hk r0 (List.mem_cons_self ..) q hq
        simp only [decide_eq_true_eq]
        intro e
        exact hn.1 (List.mem_map.2 ⟨r, hr, by rw [← this, e]⟩)
      rw [h1, List.nil_append]
      exact inRow_rows hn.2 (fun r hr => hk r (List.mem_cons_of_mem _ hr)) r hr
theorem inRow_no {R : List RW} (hk : ∀ r ∈ R, ∀ q ∈ r.2.2, q.1.1 = r.1) {i : Int} (h : i ∉ R.map (·.1)) : inRow i (rowsG R) = [] := List.filter_eq_nil_iff.2 fun q hq => by
  obtain ⟨r', hr', hq'⟩ := List.mem_flatMap.1 hq
  have := hk r' hr' q hq'
  simp only [decide_eq_true_eq]
  intro e
  exact h (List.mem_map.2 ⟨r', hr', by rw [← this, e]⟩)
theorem rowsM_keys (R : List RW) : (rowsM R).map (·.1) = R.map (·.1) := by simp [rowsM, List.map_map, Function.comp_def]
/-- the row at a key, or an empty one -/
def rowAt (R : List RW) (k : Int) : RW := (R.find? fun r => decide (r.1 = k)).getD (k, (none, 0, 0), [])
theorem rowAt_spec {R : List RW} (hn : (R.map (·.1)).Nodup) (hk : ∀ r ∈ R, rowOk r) (k : Int) : ((lkp (rowsM R) k).elim (Value.slice none 0 0) slc3 = .slice (rowAt R k).2.1.1 (rowAt R k).2.2.length (rowAt R k).2.1.2.2) ∧ (rowAt R k ∈ R ∨ (rowAt R k) = (k, (none, 0, 0), [])) ∧ (rowAt R k).2.2 = inRow k (rowsG R) := by
  have hq : ∀ r ∈ R, ∀ q ∈ r.2.2, q.1.1 = r.1 := fun r hr => (hk r hr).2.2
  unfold rowAt
  cases h : R.find? fun r => decide (r.1 = k) with
  | none =>
    have hno : k ∉ R.map (·.1) := fun hm => by
      obtain ⟨r, hr, e⟩ := List.mem_map.1 hm
      have := (List.find?_eq_none.1 h) r hr
      simp [e] at this
    rw [lkp_none.2 (by rw [rowsM_keys]; exact hno)]
    exact ⟨rfl, .inr rfl, (inRow_no hq hno).symm⟩
  | some r =>
    have hr := List.mem_of_find?_eq_some h
    have hkey : r.1 = k := by simpa using List.find?_some h
    have hl : lkp (rowsM R) k = some r.2.1 := lkp_of_mem (by rw [rowsM_keys]; exact hn) (List.mem_map.2 ⟨r, hr, by rw [← hkey]⟩)
    rw [hl]
    refine ⟨?_, .inl hr, ?_⟩
    · simp only [Option.elim_some, Option.getD_some, slc3, (hk r hr).2.1]
    · simp only [Option.getD_some]
      rw [← hkey, inRow_rows hn hq r hr]
/-- more than 4096 places, or too long a number -/
def Refw (Z : Int × Int → Int) : Prop := (∃ k, bigZ (Z k)) ∨ ∃ l' : GL, NZ l' ∧ (l'.map (·.1)).Nodup ∧ (∀ p ∈ l', ival p.2 = Z p.1) ∧ 4096 < l'.length
end Go.Eng

set_option linter.unusedSectionVars false
namespace Go.Eng
open Go Go.Proofs Go.NatM Go.RowKit Go.Proofs.Ytlpheckjogphmaa
/-- sums' integers -/
def dpSv (s : SL) (N : Nat) : DP := ⟨fun H => ∀ p ∈ s, LI H (ival p.2) p.2 ∧ p.2.m.n ≤ N, fun _ => False, fun _ _ _ h => h.elim, fun _ _ hd h p hp => ⟨(h p hp).1.de hd, (h p hp).2⟩⟩
theorem nf_sv {s : SL} {N m : Nat} : ¬ (dpSv s N).fp m := fun h => h
section
variable {P : Program} {σ : Go.Eng.Store} {do_ : Option Tmp} {t : TypeId} {pos : String} {af : Array Edge} {gd : Option (Nat × Bool)} {S : Nat → Prop} {w0 w w' : World} {L : List VB} {D : List DP}
theorem Fr.sv (hF : Fr w0 w L D S) {s : SL} {N : Nat} (h : dpSv s N ∈ D) : ∀ p ∈ s, LI w.heap (ival p.2) p.2 ∧ p.2.m.n ≤ N := hF.data _ h
theorem Fr.svPut (hF : Fr w0 w L D S) {s : SL} {N N' : Nat} (h : dpSv s N ∈ D) {j : Int} {y : IV} (hy : LI w.heap (ival y) y) (hn : y.m.n ≤ N') (hN : N ≤ N') : Fr w0 w L (dpSv (ups s j y) N' :: D) S :=
  hF.add _ (fun p hp => by
    rcases ups_mem hp with rfl | hp
    · exact ⟨hy, hn⟩
    · have := hF.sv h p hp; exact ⟨this.1, Nat.le_trans this.2 hN⟩) fun v _ h => h
theorem Fr.svMore (hF : Fr w0 w L D S) {s : SL} {N N' : Nat} (h : dpSv s N ∈ D) (hN : N ≤ N') : Fr w0 w L (dpSv s N' :: D) S :=
  hF.add _ (fun p hp => by have := hF.sv h p hp; exact ⟨this.1, Nat.le_trans this.2 hN⟩) fun v _ h => h
theorem sv_at {H : Array Obj} {s : SL} {N : Nat} (h : ∀ p ∈ s, LI H (ival p.2) p.2 ∧ p.2.m.n ≤ N) (j : Int) : GI H ((lkp s j).getD iv0) ∧ ((lkp s j).getD iv0).m.n ≤ N := by
  cases hq : lkp s j with
  | none => exact ⟨iv0_gi _, Nat.zero_le _⟩
  | some y => have := h _ (lkp_mem hq); exact ⟨this.1.g, this.2⟩
theorem ev_mlookJ (hF : Fr w0 w L D S) {x i : Operand} {ty k e : TypeId} [hT : UMap P ty k e] [hK : UKey P k Int intk] {sz b1 b : Nat} [hS : USize P e (.agg #[.bool false, .slice none 0 0]) sz b1] {l : SL} {y : Int} (hx : Go.Eng.look σ x = some (.map (some b))) (hi : Go.Eng.look σ i = some (intk y)) (hm : dpMp intk ivA b l ∈ D) :
    Ev P σ w.heap ⟨do_, .lookup ty x i false, t, pos, af, gd⟩ (ivA ((lkp l y).getD iv0)) := by
  have := ev_mlook (do_ := do_) (t := t) (pos := pos) (af := af) (gd := gd) (ty := ty) (P := P) hF hx hi hm
  rwa [elim_iv] at this
theorem ev_mlookQ (hF : Fr w0 w L D S) {x i : Operand} {ty k e : TypeId} [hT : UMap P ty k e] [hK : UKey P k Int intk] {sz b1 b : Nat} [hS : USize P e (.slice none 0 0) sz b1] {l : List (Int × S3)} {y : Int} {A : Option Addr} {n c : Nat} (hx : Go.Eng.look σ x = some (.map (some b))) (hi : Go.Eng.look σ i = some (intk y)) (hm : dpMp intk slc3 b l ∈ D) (h : (lkp l y).elim (Value.slice none 0 0) slc3 = .slice A n c) :
    Ev P σ w.heap ⟨do_, .lookup ty x i false, t, pos, af, gd⟩ (.slice A n c) := by
  have := ev_mlook (do_ := do_) (t := t) (pos := pos) (af := af) (gd := gd) (ty := ty) (P := P) hF hx hi hm
  rwa [h] at this
theorem ev_entryS (hF : Fr w0 w L D S) {p : Int × S3} {r b : Nat} {l done todo : List (Int × S3)} (hm : dpIt intk slc3 r b l (done ++ [p]) todo ∈ D) {x : Operand} (hx : Go.Eng.look σ x = some (.pointer (some ⟨r, 0, none⟩))) : Ev P σ w.heap ⟨do_, .entry x, t, pos, af, gd⟩ (.tuple #[.int .i64 p.1, .slice p.2.1 p.2.2.1 p.2.2.2]) := ev_entry hF hm hx
theorem ev_entryJ (hF : Fr w0 w L D S) {p : Int × IV} {r b : Nat} {l done todo : SL} (hm : dpIt intk ivA r b l (done ++ [p]) todo ∈ D) {x : Operand} (hx : Go.Eng.look σ x = some (.pointer (some ⟨r, 0, none⟩))) : Ev P σ w.heap ⟨do_, .entry x, t, pos, af, gd⟩ (.tuple #[.int .i64 p.1, ivA p.2]) := ev_entry hF hm hx
theorem Fr.it_lt (hF : Fr w0 w L D S) {K V : Type} {f : K → Value} {g : V → Value} {r b : Nat} {l d t : List (K × V)} (h : dpIt f g r b l d t ∈ D) : r < w.heap.size := by
  have := hF.data _ h
  unfold dpIt at this
  obtain ⟨es, c, E, T, _, _, h1, _⟩ := this
  exact (Array.getElem?_eq_some_iff.1 h1).1
theorem Fr.rw_it (hF : Fr w0 w L D S) {R : List RW} (h : dpRW R ∈ D) {K V : Type} {f : K → Value} {g : V → Value} {r b : Nat} {l d t : List (K × V)} (h2 : dpIt f g r b l d t ∈ D) : ¬ (dpRW R).fp r := fun ⟨r', hr', hk⟩ => by
  have := hF.data _ h2
  unfold dpIt at this
  obtain ⟨es, c, E, T, _, _, hm, _⟩ := this
  have hs := hF.rw h r' hr'
  obtain ⟨hn, o, e⟩ := hk
  have hl := hs.len
  have hp := hs.pos
  rcases hs.mem with h | ⟨b', o', e', _, hc⟩
  · omega
  · rw [e] at e'
    cases e'
    have hw := hs.wid r'.2.2[0] (List.getElem_mem (by omega))
    have := hc 0 r'.2.2[0] (List.getElem?_eq_getElem (by omega)) 0 (plc r'.2.2[0])[0] (List.getElem?_eq_getElem (by omega))
    unfold hcell at this
    rw [hm] at this
    cases this
/-- the rows of a grid join the facts -/
theorem Fr.addBy (hF : Fr w0 w L D S) {mb : Nat} {R : List RW} {ls : GL} (h : Fr w w' [] [dpMp intk slc3 mb (rowsM R), dpRW R, dpGv ls]) (hm : w.heap.size ≤ mb) (hf : ∀ r ∈ R, ∀ k, fpA r.2.1.1 r.2.1.2.1 k → w.heap.size ≤ k) : Fr w0 w' L (dpMp intk slc3 mb (rowsM R) :: dpRW R :: dpGv ls :: D) S := by
  have hE := h.ext
  have h1 := Fr.addGv (hF.exts hE) (Fr.gv h (l := ls) (by repeat (first | exact memH | apply memT)))
  have h2 : Fr w0 w' L (dpRW R :: dpGv ls :: D) S := h1.add _ (h.rw (by repeat (first | exact memH | apply memT))) fun v hv ⟨r, hr, hk⟩ => by
    have := (hF.vars v hv).2.lt
    have := hf r hr _ hk
    omega
  refine h2.add _ (by unfold dpMp; exact h.mp (by repeat (first | exact memH | apply memT))) fun v hv hk => ?_
  unfold dpMp at hk
  have := (hF.vars v hv).2.lt
  have hk2 : v.b = mb := hk
  omega
end
attribute [irreducible] dpSv

/-- the inner step of a product -/
theorem mul_step {gl gl2 ls2 : GL} {s : SL} {a b : Nat} {p q : (Int × Int) × IV} {y : IV} (hq : gl2[b]? = some q) (h : ∀ j, sz s j = rs (gl.take a) ls2 j + ival p.2 * cs (gl2.take b) j) (hy : ival y = ival p.2 * ival q.2 + sz s q.1.2) :
    ∀ j, sz (ups s q.1.2 y) j = rs (gl.take a) ls2 j + ival p.2 * cs (gl2.take (b + 1)) j := fun j => by
  rw [sz_ups, take_snoc hq, cs_snoc, Int.mul_add]
  by_cases hj : q.1.2 = j
  · subst hj; rw [if_pos rfl, if_pos rfl, hy, h]; omega
  · rw [if_neg hj, if_neg hj, h]; omega
theorem mul_row {gl ls2 : GL} {s : SL} {a : Nat} {p : (Int × Int) × IV} {X : Int → Int} (hp : gl[a]? = some p) (h : ∀ j, sz s j = rs (gl.take a) ls2 j + ival p.2 * X j) (hX : ∀ j, X j = zv ls2 (p.1.2, j)) : ∀ j, sz s j = rs (gl.take (a + 1)) ls2 j := fun j => by
  rw [h, hX, take_snoc hp, rs_snoc]
theorem sz_snoc {s : SL} {p : Int × IV} (h : p.1 ∉ s.map (·.1)) (j : Int) : sz (s ++ [p]) j = if p.1 = j then ival p.2 else sz s j := by
  have := ups_new h p.2
  unfold sz
  rw [← this, lkp_ups]
  by_cases hk : p.1 = j <;> simp [hk]
theorem sz_perm {s s' : SL} (hn : (s.map (·.1)).Nodup) (h : s.Perm s') (j : Int) : sz s j = sz s' j := by unfold sz; rw [lkp_perm hn h]
theorem mul_fin {gl ls1 ls2 lo lo4 : GL} {s d4 : SL} {i X Y : Int} (hsn : (s.map (·.1)).Nodup) (hp : s.Perm d4) (hs : ∀ j, sz s j = rs gl ls2 j) (hgi : gl = inRow i ls1) (h : zv lo4 (X, Y) = if X = i then sz d4 Y else zv lo (X, Y)) : zv lo4 (X, Y) = if X = i then mulZ ls1 ls2 (X, Y) else zv lo (X, Y) := by
  rw [h]
  by_cases hx : X = i
  · rw [if_pos hx, if_pos hx, ← sz_perm hsn hp, hs, mulZ_rs, hx, hgi]
  · rw [if_neg hx, if_neg hx]
theorem perm_new {K V : Type} {l done todo : List (K × V)} {p : K × V} (hn : (l.map (·.1)).Nodup) (hp : l.Perm (done ++ [p] ++ todo)) : p.1 ∉ done.map (·.1) := by
  have h1 : ((done ++ [p] ++ todo).map (·.1)).Nodup := ((hp.map _).nodup_iff).1 hn
  rw [List.map_append, List.map_append] at h1
  exact fun hm => (List.nodup_append.1 (List.nodup_append.1 h1).1).2.2 _ hm p.1 (by simp) rfl
end Go.Eng
namespace Go.Proofs.Ytlpheckjogphmaa
open Go Go.Eng Go.Proofs Go.NatM Go.RowKit
set_option maxHeartbeats 16000000 in
theorem gmul_ok (w : World) (g m g2 m2 r n c : Nat) (l l2 : GL) (hG : Gr w.heap g m r n l) (hG2 : Gr w.heap g2 m2 n c l2) (hl : l.length ≤ 4096) (hl2 : l2.length ≤ 4096) :
    Cl Try.prog 22 #[.pointer (some ⟨g, 0, none⟩), .pointer (some ⟨g2, 0, none⟩)] w
      (fun e w' => RetGZ w r c (mulZ l l2) e w' ∨ (Refw (mulZ l l2) ∧ RetLg w 5 e w')) := by
  have hn : (l.map (·.1)).Nodup := by obtain ⟨es, k, _, h⟩ := hG.mp; exact h.keys
  have hn2 : (l2.map (·.1)).Nodup := by obtain ⟨es, k, _, h⟩ := hG2.mp; exact h.keys
  have hF := Fr.mt (Fr.mt (Fr.refS w fun _ => False) (dpGr g m r n l) (by unfold dpGr; exact hG)) (dpGr g2 m2 n c l2) (by unfold dpGr; exact hG2)
  clear hG hG2
  refine enter Try.func22 rfl rfl rfl ?_
  repeat' (first | (refine TL.isOp ?_; first | (refine TL.isG ?_; first | refine TL.grun rfl rfl rfl ?_) | (refine TL.isCall ?_; refine TL.call rfl rfl ?_; first | (refine (blank_ok _ r c).mono ?_; rintro _ wy ⟨go, mo, rfl, hE, hgo, hmo, hGo⟩; have hz0 := hF.exs.size; replace hF := Fr.newParts hF hE hgo hmo hGo; replace hgo := Nat.le_trans hz0 hgo; replace hmo := Nat.le_trans hz0 hmo; have hgom := hGo.ne; clear hE hGo hz0; refine Back.mk ?_) | (refine (gbyrow_ok _ g2 m2 n c l2 (hF.grOf (g := g2) (l := l2) (by repeat (first | exact memH | apply memT))) (by omega)).mono ?_; rintro _ wy ⟨mr, R2, ls2, rfl, hmr, hFb, hg2, hk2, hnd2, hlen2, hzk2, hfr2⟩; have hmo_mr := Nat.ne_of_lt (Nat.lt_of_lt_of_le (hF.mp_lt (m := mo) (l := ([] : GL)) (by repeat (first | exact memH | apply memT))) hmr); have hz0 := hF.exs.size; replace hF := hF.addBy hFb hmr hfr2; replace hmr := Nat.le_trans hz0 hmr; clear hFb hz0 hfr2; refine Back.mk ?_) | (refine (gbyrow_ok _ g m r n l (hF.grOf (g := g) (l := l) (by repeat (first | exact memH | apply memT))) (by omega)).mono ?_; rintro _ wy ⟨ml, R1, ls1, rfl, hml, hFb, hg1, hk1, hnd1, hlen1, hzk1, hfr1⟩; have hmo_ml := Nat.ne_of_lt (Nat.lt_of_lt_of_le (hF.mp_lt (m := mo) (l := ([] : GL)) (by repeat (first | exact memH | apply memT))) hml); have hmr_ml := Nat.ne_of_lt (Nat.lt_of_lt_of_le (hF.mp_lt (m := mr) (l := rowsM R2) (by repeat (first | exact memH | apply memT))) hml); have hz0 := hF.exs.size; replace hF := hF.addBy hFb hml hfr1; replace hml := Nat.le_trans hz0 hml; clear hFb hz0 hfr1; refine Back.mk ?_)) | (refine TL.isBin ?_; refine TL.cmpG rfl rfl rfl rfl (fun hc => ?_) (fun hc => ?_) <;> (try (first | (exfalso; omega) | exact absurd rfl hc))) | (apply TL.ev; (case hd => rfl); (case h => (first | exact ev_simple rfl | (apply Ev.isBin; first | exact ev_eqlP rfl rfl rfl) | (apply Ev.isLoad; first | exact ev_loadV rfl (hF.grOf (g := g) (l := l) (by repeat (first | exact memH | apply memT))).cells rfl | exact ev_loadV rfl (hF.grOf (g := g2) (l := l2) (by repeat (first | exact memH | apply memT))).cells rfl) | exact ev_fieldAddr rfl | exact ev_nilCheck rfl))) | (refine TL.rangeFr (f := intk) (g := slc3) (l := rowsM R1) hF rfl (by repeat (first | exact memH | apply memT)) rfl ?_; have hr := hF.exs.size; clear hF; intro wr rr er hF; replace hr := Nat.le_trans hr (Nat.le_of_eq er.symm); clear er)) | (refine TF.is ?_; first | refine TF.nil ?_ | refine TF.e rfl ?_ | (refine TF.pick rfl ?_; first | (apply TFo.ev; (case hd => rfl); (case h => (intro wh hF; first | exact ev_simple rfl | (apply Ev.isLoad; first | exact ev_loadV rfl (hF.grOf (g := g) (l := l) (by repeat (first | exact memH | apply memT))).cells rfl | exact ev_loadV rfl (hF.grOf (g := g2) (l := l2) (by repeat (first | exact memH | apply memT))).cells rfl) | exact ev_fieldAddr rfl | exact ev_nilCheck rfl))))) | (refine T.is ?_; first | refine T.seq ?_ | refine T.region ?_ | refine T.block ?_ | refine T.cond_f rfl ?_ | refine T.skip ?_ | (refine T.regionFr hF 5 13 (.s 0 (.s 1 (.s 2 (.s 3 (.s 4 (.s 5 (.s 6 (.s 7 (.s 9 (.e 8 (.e 10 (.s 11 (.s 12 .nil))))))))))))) mixed (by kernel_rfl) ?_; clear hF; intro wr hF) | refine T.regionQ mixed (by kernel_rfl) ?_) | (refine G.is ?_; first | refine G.next ?_ | refine G.blockN ?_ | refine G.only ?_ | refine G.tree rfl (by first | exact hF | exact hF.weak (List.sublist_append_right _ _) (by repeat (first | exact allR | apply allT)) | exact hF.weak (by repeat (first | exact List.Sublist.refl _ | apply List.Sublist.cons)) (by repeat (first | exact allR | apply allT)) | exact hF.weak (by repeat (first | exact List.Sublist.refl _ | apply List.Sublist.cons)) (by repeat (first | exact allN | refine allH (by repeat (first | exact memH | apply memT)) ?_))) ?_) | refine TL.nil ?_ | (refine TL.nilFr hF ?_; clear hF; intro wq hF))
  have hR1 : (R1.map (·.1)).Nodup := by
    obtain ⟨es, x, _, hq⟩ := hF.mp (show dpMp intk slc3 ml (rowsM R1) ∈ _ from (by repeat (first | exact memH | apply memT)))
    rw [← rowsM_keys]; exact hq.keys
  have hR2 : (R2.map (·.1)).Nodup := by
    obtain ⟨es, x, _, hq⟩ := hF.mp (show dpMp intk slc3 mr (rowsM R2) ∈ _ from (by repeat (first | exact memH | apply memT)))
    rw [← rowsM_keys]; exact hq.keys
  have hmo_rr := hF.it_mp (m := mo) (l2 := ([] : GL)) (by repeat (first | exact memH | apply memT)) (by repeat (first | exact memH | apply memT))
  have hmr_rr := hF.it_mp (m := mr) (l2 := rowsM R2) (by repeat (first | exact memH | apply memT)) (by repeat (first | exact memH | apply memT))
  have hml_rr := hF.it_mp (m := ml) (l2 := rowsM R1) (by repeat (first | exact memH | apply memT)) (by repeat (first | exact memH | apply memT))
  have hZ := mulZ_congr hn hnd1 hzk1 hzk2
  refine T.loop (α := List (Int × S3) × List (Int × S3) × GL) (fun x => [(6, .pointer (some ⟨go, 0, none⟩)), (7, .map (some mr)), (47, .pointer (some ⟨rr, 0, none⟩))])
    (fun x w' => (rowsM R1).Perm (x.1 ++ x.2.1) ∧ (NZ x.2.2 ∧ (∀ X Y, zv x.2.2 (X, Y) = if X ∈ x.1.map (·.1) then mulZ ls1 ls2 (X, Y) else 0) ∧ x.2.2.length ≤ 4096) ∧ Fr w w' [] [dpIt intk slc3 rr ml (rowsM R1) x.1 x.2.1, dpMp spot ivA mo x.2.2, dpCb go 96 (grc r c mo), dpGv x.2.2, dpMp intk slc3 mr (rowsM R2), dpRW R2, dpGv ls2, dpMp intk slc3 ml (rowsM R1), dpRW R1, dpGv ls1]) (fun x => x.2.1.length) ([], rowsM R1, []) (by repeat (first | exact Sub.nil _ | refine Sub.cons rfl ?_ | refine Sub.cons' rfl (int_congr (by omega)) ?_)) ⟨List.Perm.refl _, ⟨fun p hp => (by cases hp), fun X Y => rfl, Nat.zero_le _⟩, hF.weak (.refl _) (allH (by repeat (first | exact memH | apply memT)) (allH (by repeat (first | exact memH | apply memT)) (allH (by repeat (first | exact memH | apply memT)) (allH (by repeat (first | exact memH | apply memT)) (allH (by repeat (first | exact memH | apply memT)) (allH (by repeat (first | exact memH | apply memT)) (allH (by repeat (first | exact memH | apply memT)) (allH (by repeat (first | exact memH | apply memT)) (allH (by repeat (first | exact memH | apply memT)) (allH (by repeat (first | exact memH | apply memT)) allN))))))))))⟩ ?_
  clear hF
  rintro ⟨done, todo, lo⟩ w1 ⟨hp, ⟨hnz, hzv, hlo⟩, hF⟩
  dsimp only at hp hnz hzv hlo hF ⊢
  repeat' (first | (refine TL.isOp ?_; first | (apply TL.ev; (case hd => rfl); (case h => (first | exact ev_simple rfl | exact ev_len rfl | exact ev_entryS hF (by repeat (first | exact memH | apply memT)) rfl))) | (refine TL.nextFr hF (.inl hr) (nfC (nf_mp hmo_rr) (nfC (nf_cb (hF.it_cb (show dpIt intk slc3 rr ml (rowsM R1) done todo ∈ _ from (by repeat (first | exact memH | apply memT))) (by repeat (first | exact memH | apply memT)))) (nfC nf_gv (nfC (nf_mp hmr_rr) (nfC (hF.rw_it (by repeat (first | exact memH | apply memT)) (show dpIt intk slc3 rr ml (rowsM R1) done todo ∈ _ from (by repeat (first | exact memH | apply memT)))) (nfC nf_gv (nfC (nf_mp hml_rr) (nfC (hF.rw_it (by repeat (first | exact memH | apply memT)) (show dpIt intk slc3 rr ml (rowsM R1) done todo ∈ _ from (by repeat (first | exact memH | apply memT)))) (nfC nf_gv nfN))))))))) rfl rfl (fun h0 wn hFn => ?_) (fun p todo' wn ht hFn => ?_) <;> clear hF <;> have hF := hFn <;> clear hFn) | (refine TL.makeMpFr intk ivA hF (d := 53) rfl ?_; have hms_s := hF.exs.size; have hmo_ms := hF.mp_lt (m := mo) (l := lo) (by repeat (first | exact memH | apply memT)); have hmr_ms := hF.mp_lt (m := mr) (l := rowsM R2) (by repeat (first | exact memH | apply memT)); have hml_ms := hF.mp_lt (m := ml) (l := rowsM R1) (by repeat (first | exact memH | apply memT)); have hrr_ms := hF.it_lt (show dpIt intk slc3 rr ml (rowsM R1) (done ++ [p]) todo' ∈ _ from (by repeat (first | exact memH | apply memT))); clear hF; intro w53 ms em hF; rw [← em] at hmo_ms hmr_ms hml_ms hrr_ms; replace hms_s := Nat.le_trans hms_s (Nat.le_of_eq em.symm); clear em)) | (refine T.is ?_; first | refine T.seq ?_ | refine T.region ?_ | refine T.block ?_ | refine T.cond_t rfl ?_ | refine T.cond_f rfl ?_ | refine T.exit ?_ | refine T.ret ?_ | refine T.skip ?_) | (refine G.is ?_; first | refine G.next ?_ | refine G.blockE ?_ | refine G.thenE ?_) | refine TL.nil ?_)
  · subst h0
    rw [List.append_nil] at hp
    have hGe := hF.gr (g := go) (m := mo) (r := r) (c := c) (l := lo) (by repeat (first | exact memH | apply memT)) (by repeat (first | exact memH | apply memT)) (by repeat (first | exact memH | apply memT))
    have hzz : ∀ k, zv lo k = mulZ l l2 k := fun ⟨X, Y⟩ => by
      rw [hzv, ← hZ]
      split
      · rfl
      · rename_i hx
        rw [mulZ_rs, ← hg1, inRow_no (fun r hr => (hk1 r hr).2.2) (fun hm => hx ((hp.map _).mem_iff.1 (by rw [rowsM_keys]; exact hm)))]; rfl
    exact G.ret2 rfl rfl rfl (.inl ⟨go, mo, lo, rfl, hF.ext, hgo, hmo, hGe, hnz, hlo, hzz, fun k => by rw [← hzz]; exact gv_small hGe.vals k⟩)
  · obtain ⟨r1, hr1, hrp⟩ := List.mem_map.1 (pm_mem hp ht)
    have hp1 : r1.1 = p.1 := congrArg (·.1) hrp
    have hp2 : r1.2.1 = p.2 := congrArg (·.2) hrp
    obtain ⟨gl, hgl⟩ : ∃ gl, gl = r1.2.2 := ⟨_, rfl⟩
    have hgn : p.2.2.1 = gl.length := by rw [← hp2, hgl]; exact (hk1 r1 hr1).2.1
    have hgi : gl = inRow p.1 ls1 := by rw [hgl, ← hp1, ← hg1, inRow_rows hR1 (fun r hr => (hk1 r hr).2.2) r1 hr1]
    have hgle : gl.length ≤ 4096 := by have := inRow_len p.1 ls1; rw [← hgi] at this; omega
    have hS1 : ∀ {w1 : World} {L : List VB} {D : List DP}, Fr w w1 L D → dpRW R1 ∈ D → Sm 4 plc w1.heap w1.heap.size p.2.1 p.2.2.1 p.2.2.2 gl := fun hF hm => by have := Fr.rw hF hm r1 hr1; rw [hp2, ← hgl] at this; exact this
    have hgv1 : ∀ q ∈ gl, q ∈ ls1 := fun q hq => by rw [hgi] at hq; exact (mem_inRow.1 hq).1
    have hne := hp.trans (ht.append_left done)
    have hpd : p.1 ∉ done.map (·.1) := perm_new (by rw [rowsM_keys]; exact hR1) (step_perm hp ht)
    clear hrp hgl
    refine T.loop (α := Nat × SL) (fun x => [(6, .pointer (some ⟨go, 0, none⟩)), (7, .map (some mr)), (8, .int .i64 p.1), (10, .map (some ms)), (47, .pointer (some ⟨rr, 0, none⟩)), (54, .slice p.2.1 p.2.2.1 p.2.2.2), (55, .int .i64 (p.2.2.1 : Int)), (56, .int .i64 (x.1 : Int))])
      (fun x w' => (x.1 ≤ gl.length ∧ ∀ j, sz x.2 j = rs (gl.take x.1) ls2 j) ∧ Fr w w' [] [dpMp intk ivA ms x.2, dpSv x.2 (32769 + x.1 * 4097), dpIt intk slc3 rr ml (rowsM R1) (done ++ [p]) todo', dpMp spot ivA mo lo, dpCb go 96 (grc r c mo), dpGv lo, dpMp intk slc3 mr (rowsM R2), dpRW R2, dpGv ls2, dpMp intk slc3 ml (rowsM R1), dpRW R1, dpGv ls1]) (fun x => gl.length - x.1) (0, []) (by repeat (first | exact Sub.nil _ | refine Sub.cons rfl ?_ | refine Sub.cons' rfl (int_congr (by omega)) ?_)) ⟨⟨Nat.zero_le _, fun j => rfl⟩, by
        have h0 : Fr w w53 [] (dpSv [] (32769 + 0 * 4097) :: _) _ := hF.add (dpSv [] (32769 + 0 * 4097)) (by unfold dpSv; exact fun q hq => (by cases hq)) fun v hv => (by cases hv)
        exact h0.weak (.refl _) (allH (by repeat (first | exact memH | apply memT)) (allH (by repeat (first | exact memH | apply memT)) (allH (by repeat (first | exact memH | apply memT)) (allH (by repeat (first | exact memH | apply memT)) (allH (by repeat (first | exact memH | apply memT)) (allH (by repeat (first | exact memH | apply memT)) (allH (by repeat (first | exact memH | apply memT)) (allH (by repeat (first | exact memH | apply memT)) (allH (by repeat (first | exact memH | apply memT)) (allH (by repeat (first | exact memH | apply memT)) (allH (by repeat (first | exact memH | apply memT)) (allH (by repeat (first | exact memH | apply memT)) allN))))))))))))⟩ ?_
    clear hF
    rintro ⟨a, s⟩ w2 ⟨⟨ha, hs⟩, hF⟩
    dsimp only at ha hs hF ⊢
    rcases Nat.lt_or_ge a gl.length with han | han
    · have han2 : a < p.2.2.1 := by omega
      obtain ⟨p1, hq1⟩ : ∃ p1, gl[a]? = some p1 := ⟨_, List.getElem?_eq_getElem han⟩
      obtain ⟨hra, hrb, hrc⟩ := rowAt_spec hR2 hk2 p1.1.2
      rw [hg2] at hrc
      generalize hR : Go.Eng.rowAt R2 p1.1.2 = ra at hra hrb hrc
      obtain ⟨rk, ⟨A2, n2, c2⟩, gl2⟩ := ra
      dsimp only at hra hrc
      have hg2le : gl2.length ≤ 4096 := by have := inRow_len p1.1.2 ls2; rw [← hrc] at this; omega
      have hS2 : ∀ {w1 : World} {L : List VB} {D : List DP}, Fr w w1 L D → dpRW R2 ∈ D → Sm 4 plc w1.heap w1.heap.size A2 gl2.length c2 gl2 := fun hF hm => by
        rcases hrb with hrb | hrb
        · have h1 := Fr.rw hF hm _ hrb
          have h2 := (hk2 _ hrb).2.1
          dsimp only at h1 h2
          rw [h2] at h1; exact h1
        · simp only [Prod.mk.injEq] at hrb
          obtain ⟨_, ⟨rfl, rfl, rfl⟩, rfl⟩ := hrb
          exact ⟨rfl, Nat.le_refl _, by decide, fun _ h => (by cases h), .inl rfl⟩
      have hgv2 : ∀ q ∈ gl2, q ∈ ls2 := fun q hq => by rw [hrc] at hq; exact (mem_inRow.1 hq).1
      have hcs : ∀ j, cs gl2 j = zv ls2 (p1.1.2, j) := fun j => by
        have h := cs_zv (k := p1.1.2) (gl := inRow p1.1.2 ls2) (hnd2.sublist (List.filter_sublist.map _)) (fun q hq => (mem_inRow.1 hq).2) j
        rw [hrc, h, zv_inRow]; simp
      repeat' (first | (refine TL.isOp ?_; first | (refine TL.isBin ?_; refine TL.cmpG rfl rfl rfl rfl (fun hc => ?_) (fun hc => ?_) <;> (try (first | (exfalso; omega) | exact absurd rfl hc))) | (apply TL.ev; (case hd => rfl); (case h => (first | exact ev_simple rfl | (apply Ev.isLoad; first | exact ev_loadFr hF rfl (by refine ⟨?_, ?_⟩; (focus (repeat (first | exact InV.head | apply InV.tail))); rfl) | exact ev_loadMc [.int .i64 p1.1.1, .int .i64 p1.1.2, .bool p1.2.neg, .slice p1.2.m.A p1.2.m.n p1.2.m.c] rfl (hS1 hF (by repeat (first | exact memH | apply memT))) hq1 rfl) | exact ev_len rfl | exact ev_fieldAddr rfl | exact ev_indexM rfl rfl han2 (hS1 hF (by repeat (first | exact memH | apply memT))).some | exact ev_mlookQ hF (y := p1.1.2) rfl rfl (by repeat (first | exact memH | apply memT)) hra))) | (refine TL.storeAFr hF rfl rfl rfl rfl (by refine ⟨?_, ?_⟩; (focus (repeat (first | apply SetV.head | apply SetV.tail))); rfl) rfl ?_; clear hF; intro ws hF) | (refine TL.allocFr hF (d := 12) rfl rfl ?_; clear hF; intro w12 b12 hF)) | (refine T.is ?_; first | refine T.seq ?_ | refine T.region ?_ | refine T.block ?_ | refine T.cond_t rfl ?_ | refine T.skip ?_) | (refine G.is ?_; first | refine G.next ?_) | refine TL.nil ?_)
      refine T.loop (α := Nat × SL) (fun x => [(6, .pointer (some ⟨go, 0, none⟩)), (7, .map (some mr)), (8, .int .i64 p.1), (10, .map (some ms)), (12, .pointer (some ⟨b12, 0, none⟩)), (47, .pointer (some ⟨rr, 0, none⟩)), (54, .slice p.2.1 p.2.2.1 p.2.2.2), (55, .int .i64 (p.2.2.1 : Int)), (56, .int .i64 (a : Int)), (63, .slice A2 gl2.length c2), (64, .int .i64 (gl2.length : Int)), (65, .int .i64 (x.1 : Int))])
        (fun x w' => (x.1 ≤ gl2.length ∧ ∀ j, sz x.2 j = rs (gl.take a) ls2 j + ival p1.2 * cs (gl2.take x.1) j) ∧ Fr w w' [⟨b12, 46, [.int .i64 p1.1.1, .int .i64 p1.1.2, .bool p1.2.neg, .slice p1.2.m.A p1.2.m.n p1.2.m.c]⟩] [dpMp intk ivA ms x.2, dpSv x.2 (32769 + a * 4097 + x.1), dpIt intk slc3 rr ml (rowsM R1) (done ++ [p]) todo', dpMp spot ivA mo lo, dpCb go 96 (grc r c mo), dpGv lo, dpMp intk slc3 mr (rowsM R2), dpRW R2, dpGv ls2, dpMp intk slc3 ml (rowsM R1), dpRW R1, dpGv ls1]) (fun x => gl2.length - x.1) (0, s) (by repeat (first | exact Sub.nil _ | refine Sub.cons rfl ?_ | refine Sub.cons' rfl (int_congr (by omega)) ?_)) ⟨⟨Nat.zero_le _, fun j => by rw [hs]; show _ = _ + ival p1.2 * 0; rw [Int.mul_zero, Int.add_zero]⟩, hF⟩ ?_
      clear hF
      clear hs s
      rintro ⟨b, s⟩ w3 ⟨⟨hb, hs⟩, hF⟩
      dsimp only at hb hs hF ⊢
      rcases Nat.lt_or_ge b gl2.length with hbn | hbn
      · obtain ⟨q, hq2⟩ : ∃ q, gl2[b]? = some q := ⟨_, List.getElem?_eq_getElem hbn⟩
        have hqm := hgv2 q (List.mem_of_getElem? hq2)
        have hpm1 := hgv1 p1 (List.mem_of_getElem? hq1)
        repeat' (first | (refine TL.isOp ?_; first | (refine TL.isCall ?_; refine TL.call rfl rfl ?_; first | (refine (zmulAdd_ok _ p1.2 q.2 ((lkp s q.1.2).getD iv0) (Fr.gv (l := ls1) hF (by repeat (first | exact memH | apply memT)) p1 hpm1).1.g (Fr.gv (l := ls2) hF (by repeat (first | exact memH | apply memT)) q hqm).1.g (sv_at (hF.sv (s := s) (by repeat (first | exact memH | apply memT))) q.1.2).1 (Nat.le_trans (Fr.gv (l := ls1) hF (by repeat (first | exact memH | apply memT)) p1 hpm1).2 (by decide)) (Nat.le_trans (Fr.gv (l := ls2) hF (by repeat (first | exact memH | apply memT)) q hqm).2 (by decide)) (Nat.le_trans (sv_at (hF.sv (s := s) (by repeat (first | exact memH | apply memT))) q.1.2).2 (by omega))).mono ?_; rintro _ wy ⟨y, rfl, hy, hE, hyn⟩; have hyn2 : y.m.n ≤ 32769 + a * 4097 + (b + 1) := (by have a1 := (Fr.gv (l := ls1) hF (by repeat (first | exact memH | apply memT)) p1 hpm1).2; have a2 := (Fr.gv (l := ls2) hF (by repeat (first | exact memH | apply memT)) q hqm).2; have a3 := (sv_at (hF.sv (s := s) (by repeat (first | exact memH | apply memT))) q.1.2).2; omega); have hyv := hy.val; replace hF := Fr.addLI (hF.exts hE) (hyv.symm ▸ hy); clear hE hy hyn; refine Back.mk ?_)) | (refine TL.isBin ?_; refine TL.cmpG rfl rfl rfl rfl (fun hc => ?_) (fun hc => ?_) <;> (try (first | (exfalso; omega) | exact absurd rfl hc))) | (apply TL.ev; (case hd => rfl); (case h => (first | exact ev_simple rfl | (apply Ev.isBin; first | exact ev_arN rfl rfl rfl (by omega)) | (apply Ev.isLoad; first | exact ev_loadMc [.int .i64 q.1.1, .int .i64 q.1.2, .bool q.2.neg, .slice q.2.m.A q.2.m.n q.2.m.c] rfl (hS2 hF (by repeat (first | exact memH | apply memT))) hq2 rfl) | exact ev_indexM rfl rfl hbn (hS2 hF (by repeat (first | exact memH | apply memT))).some | exact ev_mlookJ hF (l := s) (y := q.1.2) rfl rfl (by repeat (first | exact memH | apply memT))))) | (refine TL.storeAFr hF rfl rfl rfl rfl (by refine ⟨?_, ?_⟩; (focus (repeat (first | apply SetV.head | apply SetV.tail))); rfl) rfl ?_; clear hF; intro ws hF) | (refine TL.allocFr hF (d := 14) rfl rfl ?_; clear hF; intro w14 b14 hF) | (refine TL.mupd (Fr.swapD hF) (.inl hms_s) (nfC nf_li (nfC nf_sv (nfC (nf_it (Nat.ne_of_lt hrr_ms) (Nat.ne_of_lt hml_ms)) (nfC (nf_mp (Nat.ne_of_lt hmo_ms)) (nfC (nf_cb (hF.cb_ne (g := go) (m := ms) (l := s) (by repeat (first | exact memH | apply memT)) (by repeat (first | exact memH | apply memT)))) (nfC nf_gv (nfC (nf_mp (Nat.ne_of_lt hmr_ms)) (nfC (hF.rw_mp (by repeat (first | exact memH | apply memT)) (show dpMp intk ivA ms s ∈ _ from (by repeat (first | exact memH | apply memT)))) (nfC nf_gv (nfC (nf_mp (Nat.ne_of_lt hml_ms)) (nfC (hF.rw_mp (by repeat (first | exact memH | apply memT)) (show dpMp intk ivA ms s ∈ _ from (by repeat (first | exact memH | apply memT)))) (nfC nf_gv nfN)))))))))))) (q := q.1.2) (v := y) rfl rfl rfl ?_; clear hF; intro wu hF)) | (refine TF.is ?_; first | refine TF.nil ?_ | refine TF.e rfl ?_ | (refine TF.pick rfl ?_; first | (apply TFo.ev; (case hd => rfl); (case h => (intro wh hF; first | exact ev_simple rfl | (apply Ev.isLoad; first | exact ev_loadFr hF rfl (by refine ⟨?_, ?_⟩; (focus (repeat (first | exact InV.head | apply InV.tail))); rfl) | exact ev_loadAFr hF rfl (by refine ⟨?_, ?_⟩; (focus (repeat (first | exact InV.head | apply InV.tail))); rfl)) | exact ev_fieldAddr rfl))))) | (refine T.is ?_; first | refine T.seq ?_ | refine T.region ?_ | refine T.block ?_ | refine T.cond_t rfl ?_ | refine T.skip ?_ | (refine T.regionFr hF 16 12 (.s 0 (.s 1 (.s 2 (.s 3 (.s 4 (.s 5 (.s 6 (.s 7 (.s 8 (.s 9 (.e 10 (.e 11 (.e 12 .nil))))))))))))) mixed (by kernel_rfl) ?_; clear hF; intro wr hF)) | (refine G.is ?_; first | refine G.next ?_ | refine G.blockN ?_ | refine G.only ?_ | refine G.treeEnd rfl ?_ | refine G.tree rfl (by first | exact hF | exact hF.weak (List.sublist_append_right _ _) (by repeat (first | exact allR | apply allT)) | exact hF.weak (by repeat (first | exact List.Sublist.refl _ | apply List.Sublist.cons)) (by repeat (first | exact allR | apply allT)) | exact hF.weak (by repeat (first | exact List.Sublist.refl _ | apply List.Sublist.cons)) (by repeat (first | exact allN | refine allH (by repeat (first | exact memH | apply memT)) ?_))) ?_) | refine TL.nil ?_)
        all_goals
          have hF2 := hF.svPut (s := s) (j := q.1.2) (y := y) (by repeat (first | exact memH | apply memT)) (Fr.li hF (x := y) (z := ival y) (by repeat (first | exact memH | apply memT))) hyn2 (by omega)
          exact G.again (b + 1, ups s q.1.2 y) (by repeat (first | exact Sub.nil _ | refine Sub.cons rfl ?_ | refine Sub.cons' rfl (int_congr (by omega)) ?_)) ⟨⟨hbn, mul_step hq2 hs hyv⟩, hF2.weak (.cons _ (.refl _)) (allH (by repeat (first | exact memH | apply memT)) (allH (by repeat (first | exact memH | apply memT)) (allH (by repeat (first | exact memH | apply memT)) (allH (by repeat (first | exact memH | apply memT)) (allH (by repeat (first | exact memH | apply memT)) (allH (by repeat (first | exact memH | apply memT)) (allH (by repeat (first | exact memH | apply memT)) (allH (by repeat (first | exact memH | apply memT)) (allH (by repeat (first | exact memH | apply memT)) (allH (by repeat (first | exact memH | apply memT)) (allH (by repeat (first | exact memH | apply memT)) (allH (by repeat (first | exact memH | apply memT)) allN))))))))))))⟩ (by omega)
      · have hbl : b = gl2.length := Nat.le_antisymm hb hbn
        rw [List.take_of_length_le hbn] at hs
        repeat' (first | (refine TL.isOp ?_; first | (refine TL.isBin ?_; refine TL.cmpG rfl rfl rfl rfl (fun hc => ?_) (fun hc => ?_) <;> (try (first | (exfalso; omega) | exact absurd rfl hc))) | (apply TL.ev; (case hd => rfl); (case h => (first | exact ev_simple rfl | (apply Ev.isBin; first | exact ev_arN rfl rfl rfl (by omega)))))) | (refine T.is ?_; first | refine T.seq ?_ | refine T.region ?_ | refine T.cond_f rfl ?_ | refine T.exit ?_) | (refine G.is ?_; first | refine G.next ?_ | refine G.blockN ?_ | refine G.blockE ?_ | refine G.thenE ?_) | refine TL.nil ?_)
        have hF2 := hF.svMore (s := s) (N' := 32769 + (a + 1) * 4097) (by repeat (first | exact memH | apply memT)) (by omega)
        exact G.again (a + 1, s) (by repeat (first | exact Sub.nil _ | refine Sub.cons rfl ?_ | refine Sub.cons' rfl (int_congr (by omega)) ?_)) ⟨⟨han, mul_row hq1 hs hcs⟩, hF2.weak (List.nil_sublist _) (allH (by repeat (first | exact memH | apply memT)) (allH (by repeat (first | exact memH | apply memT)) (allH (by repeat (first | exact memH | apply memT)) (allH (by repeat (first | exact memH | apply memT)) (allH (by repeat (first | exact memH | apply memT)) (allH (by repeat (first | exact memH | apply memT)) (allH (by repeat (first | exact memH | apply memT)) (allH (by repeat (first | exact memH | apply memT)) (allH (by repeat (first | exact memH | apply memT)) (allH (by repeat (first | exact memH | apply memT)) (allH (by repeat (first | exact memH | apply memT)) (allH (by repeat (first | exact memH | apply memT)) allN))))))))))))⟩ (by omega)
    · have hal : a = gl.length := Nat.le_antisymm ha han
      rw [List.take_of_length_le han] at hs
      have hsn : (s.map (·.1)).Nodup := by obtain ⟨es, x, _, hq⟩ := hF.mp (show dpMp intk ivA ms s ∈ _ from (by repeat (first | exact memH | apply memT))); exact hq.keys
      repeat' (first | (refine TL.isOp ?_; first | (refine TL.isBin ?_; refine TL.cmpG rfl rfl rfl rfl (fun hc => ?_) (fun hc => ?_) <;> (try (first | (exfalso; omega) | exact absurd rfl hc))) | (apply TL.ev; (case hd => rfl); (case h => (first | exact ev_simple rfl))) | (refine TL.rangeFr (f := intk) (g := ivA) (l := s) hF rfl (by repeat (first | exact memH | apply memT)) rfl ?_; have hr2 := hF.exs.size; have hmo_r2 := hF.mp_lt (m := mo) (l := lo) (by repeat (first | exact memH | apply memT)); have hmr_r2 := hF.mp_lt (m := mr) (l := rowsM R2) (by repeat (first | exact memH | apply memT)); have hml_r2 := hF.mp_lt (m := ml) (l := rowsM R1) (by repeat (first | exact memH | apply memT)); have hrr_r2 := hF.it_lt (show dpIt intk slc3 rr ml (rowsM R1) (done ++ [p]) todo' ∈ _ from (by repeat (first | exact memH | apply memT))); clear hF; intro w84 r2 er hF; rw [← er] at hmo_r2 hmr_r2 hml_r2 hrr_r2; replace hr2 := Nat.le_trans hr2 (Nat.le_of_eq er.symm); clear er)) | (refine T.is ?_; first | refine T.seq ?_ | refine T.region ?_ | refine T.block ?_ | refine T.cond_f rfl ?_ | refine T.exit ?_) | (refine G.is ?_; first | refine G.next ?_ | refine G.blockE ?_ | refine G.thenE ?_) | refine TL.nil ?_)
      refine T.loop (α := SL × SL × GL) (fun x => [(6, .pointer (some ⟨go, 0, none⟩)), (7, .map (some mr)), (8, .int .i64 p.1), (47, .pointer (some ⟨rr, 0, none⟩)), (84, .pointer (some ⟨r2, 0, none⟩))])
        (fun x w' => s.Perm (x.1 ++ x.2.1) ∧ (NZ x.2.2 ∧ ∀ X Y, zv x.2.2 (X, Y) = if X = p.1 then sz x.1 Y else zv lo (X, Y)) ∧ Fr w w' [] [dpIt intk ivA r2 ms s x.1 x.2.1, dpMp spot ivA mo x.2.2, dpCb go 96 (grc r c mo), dpGv x.2.2, dpIt intk slc3 rr ml (rowsM R1) (done ++ [p]) todo', dpMp intk slc3 mr (rowsM R2), dpRW R2, dpGv ls2, dpMp intk slc3 ml (rowsM R1), dpRW R1, dpGv ls1, dpSv s (32769 + a * 4097)]) (fun x => x.2.1.length) ([], s, lo) (by repeat (first | exact Sub.nil _ | refine Sub.cons rfl ?_ | refine Sub.cons' rfl (int_congr (by omega)) ?_)) ⟨List.Perm.refl _, ⟨hnz, fun X Y => by
          dsimp only
          split
          · rename_i hx
            rw [hzv, if_neg (by rw [hx]; exact hpd)]; rfl
          · rfl⟩, hF.weak (.refl _) (allH (by repeat (first | exact memH | apply memT)) (allH (by repeat (first | exact memH | apply memT)) (allH (by repeat (first | exact memH | apply memT)) (allH (by repeat (first | exact memH | apply memT)) (allH (by repeat (first | exact memH | apply memT)) (allH (by repeat (first | exact memH | apply memT)) (allH (by repeat (first | exact memH | apply memT)) (allH (by repeat (first | exact memH | apply memT)) (allH (by repeat (first | exact memH | apply memT)) (allH (by repeat (first | exact memH | apply memT)) (allH (by repeat (first | exact memH | apply memT)) (allH (by repeat (first | exact memH | apply memT)) allN))))))))))))⟩ ?_
      clear hF
      rintro ⟨d4, t4, lo4⟩ w4 ⟨hp4, ⟨hnz4, hzv4⟩, hF⟩
      dsimp only at hp4 hnz4 hzv4 hF ⊢
      have hno := hF.mp_nodup (m := mo) (l := lo4) (by repeat (first | exact memH | apply memT))
      repeat' (first | (refine TL.isOp ?_; first | (refine TL.isCall ?_; refine TL.call rfl rfl ?_; first | (by_cases hbig : bigZ (ival p4.2); refine (long_t _ p4.2 (hF.sv (s := s) (by repeat (first | exact memH | apply memT)) p4 (pm_mem hp4 ht4)).1.g (Nat.le_trans (hF.sv (s := s) (by repeat (first | exact memH | apply memT)) p4 (pm_mem hp4 ht4)).2 (by omega)) hbig).mono ?_; rintro _ wy ⟨rfl, hE⟩; replace hF := hF.exts hE; clear hE; refine Back.mk ?_; rotate_left 1; refine (long_f _ p4.2 (hF.sv (s := s) (by repeat (first | exact memH | apply memT)) p4 (pm_mem hp4 ht4)).1.g (Nat.le_trans (hF.sv (s := s) (by repeat (first | exact memH | apply memT)) p4 (pm_mem hp4 ht4)).2 (by omega)) hbig).mono ?_; rintro _ wy ⟨rfl, hE⟩; replace hF := hF.exts hE; clear hE; refine Back.mk ?_) | (refine (gput_ok _ go mo r c lo4 (p.1, p4.1) p4.2 (ival p4.2) (hF.gr (by repeat (first | exact memH | apply memT)) (by repeat (first | exact memH | apply memT)) (by repeat (first | exact memH | apply memT))) (hF.sv (s := s) (by repeat (first | exact memH | apply memT)) p4 (pm_mem hp4 ht4)).1 (few_of (hF.sv (s := s) (by repeat (first | exact memH | apply memT)) p4 (pm_mem hp4 ht4)).1 hbig)).mono ?_; rintro _ wy ⟨rfl, hE, hGp⟩; replace hF := Fr.addGv (Fr.callMp (Fr.swapD hF) hE (.inl hmo) (nfC (nf_it (Nat.ne_of_gt hmo_r2) (Nat.ne_of_gt hmo_ms)) (nfC (nf_cb hgom) (nfC nf_gv (nfC (nf_it hmo_rr.symm hmo_ml.symm) (nfC (nf_mp hmo_mr.symm) (nfC (hF.rw_mp (by repeat (first | exact memH | apply memT)) (show dpMp spot ivA mo lo4 ∈ _ from (by repeat (first | exact memH | apply memT)))) (nfC nf_gv (nfC (nf_mp hmo_ml.symm) (nfC (hF.rw_mp (by repeat (first | exact memH | apply memT)) (show dpMp spot ivA mo lo4 ∈ _ from (by repeat (first | exact memH | apply memT)))) (nfC nf_gv (nfC nf_sv nfN))))))))))) hGp.mp) hGp.vals; clear hE hGp; refine Back.mk ?_)) | (refine TL.isBin ?_; refine TL.cmpG rfl rfl rfl rfl (fun hc => ?_) (fun hc => ?_) <;> (try (first | (exfalso; omega) | exact absurd rfl hc))) | (apply TL.ev; (case hd => rfl); (case h => (first | exact ev_simple rfl | (apply Ev.isLoad; first | exact ev_loadAFr hF rfl (by refine ⟨?_, ?_⟩; (focus (repeat (first | exact InV.head | apply InV.tail))); rfl) | exact ev_loadCb hF rfl (by repeat (first | exact memH | apply memT)) rfl) | exact ev_fieldAddr rfl | exact ev_buildX rfl rfl | exact ev_nilCheck rfl | exact ev_entryJ hF (by repeat (first | exact memH | apply memT)) rfl | exact ev_mlen hF (l := lo4) rfl (by repeat (first | exact memH | apply memT))))) | (refine TL.storeAFr hF rfl rfl rfl rfl (by refine ⟨?_, ?_⟩; (focus (repeat (first | apply SetV.head | apply SetV.tail))); rfl) rfl ?_; clear hF; intro ws hF) | (refine TL.nextFr hF (.inl hr2) (nfC (nf_mp (Nat.ne_of_lt hmo_r2)) (nfC (nf_cb (hF.it_cb (show dpIt intk ivA r2 ms s d4 t4 ∈ _ from (by repeat (first | exact memH | apply memT))) (by repeat (first | exact memH | apply memT)))) (nfC nf_gv (nfC (nf_it (Nat.ne_of_lt hrr_r2) (Nat.ne_of_lt hml_r2)) (nfC (nf_mp (Nat.ne_of_lt hmr_r2)) (nfC (hF.rw_it (by repeat (first | exact memH | apply memT)) (show dpIt intk ivA r2 ms s d4 t4 ∈ _ from (by repeat (first | exact memH | apply memT)))) (nfC nf_gv (nfC (nf_mp (Nat.ne_of_lt hml_r2)) (nfC (hF.rw_it (by repeat (first | exact memH | apply memT)) (show dpIt intk ivA r2 ms s d4 t4 ∈ _ from (by repeat (first | exact memH | apply memT)))) (nfC nf_gv (nfC nf_sv nfN))))))))))) rfl rfl (fun h0 wn hFn => ?_) (fun p4 t4' wn ht4 hFn => ?_) <;> clear hF <;> have hF := hFn <;> clear hFn) | (refine TL.allocFr hF (d := 16) rfl rfl ?_; clear hF; intro w16 b16 hF)) | (refine T.is ?_; first | refine T.seq ?_ | refine T.region ?_ | refine T.block ?_ | refine T.cond_t rfl ?_ | refine T.cond_f rfl ?_ | refine T.exit ?_ | refine T.ret ?_ | refine T.skip ?_) | (refine G.is ?_; first | refine G.next ?_ | refine G.blockN ?_ | refine G.blockE ?_ | refine G.blockR ?_ | refine G.thenE ?_ | refine G.thenR ?_) | refine TL.nil ?_)
      · subst h0
        rw [List.append_nil] at hp4
        have hfin := fun X Y => mul_fin hsn hp4 hs hgi (hzv4 X Y)
        refine G.ret2 rfl rfl rfl (.inr ⟨.inr ⟨lo4, hnz4, hno, fun pp hpp => ?_, by omega⟩, rfl, hF.ext⟩)
        have e1 : zv lo4 pp.1 = ival pp.2 := zv_some (lkp_of_mem (x := pp.1) (v := pp.2) hno hpp)
        have e2 := hfin pp.1.1 pp.1.2
        rw [show ((pp.1.1, pp.1.2) : Int × Int) = pp.1 from rfl, e1] at e2
        rw [e2, ← hZ]
        split
        · rfl
        · rename_i hx
          rw [if_neg hx] at e2
          have e3 := hzv pp.1.1 pp.1.2
          rw [show ((pp.1.1, pp.1.2) : Int × Int) = pp.1 from rfl] at e3
          rw [e3]
          split
          · rfl
          · rename_i hd
            rw [if_neg hd] at e3
            exact absurd (e2.trans e3) (hnz4 pp hpp)
      · subst h0
        rw [List.append_nil] at hp4
        have hfin := fun X Y => mul_fin hsn hp4 hs hgi (hzv4 X Y)
        exact G.again (done ++ [p], todo', lo4) (by repeat (first | exact Sub.nil _ | refine Sub.cons rfl ?_ | refine Sub.cons' rfl (int_congr (by omega)) ?_)) ⟨step_perm hp ht, ⟨hnz4, fun X Y => by
          dsimp only
          rw [hfin, List.map_append]
          by_cases hx : X = p.1
          · rw [if_pos hx, if_pos (by simp [hx])]
          · rw [if_neg hx, hzv]
            have : X ∈ done.map (·.1) ++ [p].map (·.1) ↔ X ∈ done.map (·.1) := by simp [hx]
            simp only [this], by dsimp only; omega⟩, hF.weak (.refl _) (allH (by repeat (first | exact memH | apply memT)) (allH (by repeat (first | exact memH | apply memT)) (allH (by repeat (first | exact memH | apply memT)) (allH (by repeat (first | exact memH | apply memT)) (allH (by repeat (first | exact memH | apply memT)) (allH (by repeat (first | exact memH | apply memT)) (allH (by repeat (first | exact memH | apply memT)) (allH (by repeat (first | exact memH | apply memT)) (allH (by repeat (first | exact memH | apply memT)) (allH (by repeat (first | exact memH | apply memT)) allN))))))))))⟩ (step_mu ht)
      · have hnew := perm_new hsn (step_perm hp4 ht4)
        exact G.again (d4 ++ [p4], t4', putL lo4 (p.1, p4.1) p4.2) (by repeat (first | exact Sub.nil _ | refine Sub.cons rfl ?_ | refine Sub.cons' rfl (int_congr (by omega)) ?_)) ⟨step_perm hp4 ht4, ⟨hnz4.put _ _, fun X Y => by
          dsimp only
          rw [zv_putL hno, hzv4, sz_snoc hnew]
          by_cases hx : X = p.1
          · subst hx
            by_cases hy : p4.1 = Y
            · subst hy; simp
            · simp [hy]
          · have : ¬ p.1 = X := fun e => hx e.symm
            simp [hx, this]⟩, hF.weak (List.nil_sublist _) (allH (by repeat (first | exact memH | apply memT)) (allH (by repeat (first | exact memH | apply memT)) (allH (by repeat (first | exact memH | apply memT)) (allH (by repeat (first | exact memH | apply memT)) (allH (by repeat (first | exact memH | apply memT)) (allH (by repeat (first | exact memH | apply memT)) (allH (by repeat (first | exact memH | apply memT)) (allH (by repeat (first | exact memH | apply memT)) (allH (by repeat (first | exact memH | apply memT)) (allH (by repeat (first | exact memH | apply memT)) (allH (by repeat (first | exact memH | apply memT)) (allH (by repeat (first | exact memH | apply memT)) allN))))))))))))⟩ (step_mu ht4)
      · refine G.ret2 rfl rfl rfl (.inr ⟨.inl ⟨(p.1, p4.1), ?_⟩, rfl, hF.ext⟩)
        rw [← hZ, mulZ_rs, ← hgi, ← hs, sz_some (lkp_of_mem (x := p4.1) (v := p4.2) hsn (pm_mem hp4 ht4))]
        exact hbig
end Go.Proofs.Ytlpheckjogphmaa

set_option linter.unusedSectionVars false
namespace Go.Eng
open Go Go.Proofs Go.NatM Go.RowKit Go.Proofs.Ytlpheckjogphmaa
theorem nodup_len_le {α : Type} [DecidableEq α] : ∀ {a b : List α}, a.Nodup → (∀ x ∈ a, x ∈ b) → a.length ≤ b.length
  | [], b, _, _ => Nat.zero_le _
  | x :: a, b, hn, h => by
    simp only [List.nodup_cons] at hn
    have hx := h x (List.mem_cons_self ..)
    have ih := nodup_len_le (a := a) (b := b.erase x) hn.2 fun y hy => (List.mem_erase_of_ne (fun e => hn.1 (by rw [← e]; exact hy))).2 (h y (List.mem_cons_of_mem _ hy))
    rw [List.length_erase_of_mem hx] at ih
    have := List.length_pos_of_mem hx
    simp only [List.length_cons]
    omega
theorem NZ.none {l : GL} (h : NZ l) (hn : (l.map (·.1)).Nodup) (e : ∀ k, zv l k = 0) : l = [] := by
  cases l with
  | nil => rfl
  | cons p l => exact absurd (e p.1) ((h.keys p.1).1 (by simp))
end Go.Eng
namespace Go.Proofs.Ytlpheckjogphmaa
open Go Go.Eng Go.Proofs Go.NatM Go.RowKit
theorem Gr.nodup {H : Array Obj} {g m r c : Nat} {l : GL} (h : Gr H g m r c l) : (l.map (·.1)).Nodup := by obtain ⟨es, k, _, hr⟩ := h.mp; exact hr.keys
end Go.Proofs.Ytlpheckjogphmaa

set_option linter.unusedSectionVars false
namespace Go.Eng
open Go Go.Proofs Go.NatM Go.RowKit Go.Proofs.Ytlpheckjogphmaa
section
variable {P : Program} {σ : Go.Eng.Store} {H : Array Obj} {d : Option Tmp} {t : TypeId} {pos : String} {af : Array Edge} {gd : Option (Nat × Bool)}
end
end Go.Eng
namespace Go.Proofs.Ytlpheckjogphmaa
open Go Go.Eng Go.Proofs Go.NatM Go.RowKit
end Go.Proofs.Ytlpheckjogphmaa

set_option linter.unusedSectionVars false
namespace Go.Eng
open Go Go.Proofs Go.NatM Go.RowKit Go.Proofs.Ytlpheckjogphmaa
/-- a grid that holds the function Z, N places of it -/
def GZ (H : Array Obj) (g m r c : Nat) (Z : Int × Int → Int) (N : Nat) : Prop := ∃ l : GL, Gr H g m r c l ∧ NZ l ∧ l.length = N ∧ ∀ k, zv l k = Z k
theorem Gr.lts {H : Array Obj} {g m r c : Nat} {l : GL} (h : Gr H g m r c l) : g < H.size ∧ m < H.size := by
  obtain ⟨es, k, hm, _⟩ := h.mp
  exact ⟨h.cells.lt, (Array.getElem?_eq_some_iff.1 hm).1⟩
theorem Gr.de {H H' : Array Obj} {g m r c : Nat} {l : GL} (h : Gr H g m r c l) (hd : DE (fun k => k = g ∨ k = m) H H') : Gr H' g m r c l := by
  have e : (dpGr g m r c l).fp = fun k => k = g ∨ k = m := by unfold dpGr; rfl
  have := (dpGr g m r c l).st H H' (by rw [e]; exact hd) (by unfold dpGr; exact h)
  unfold dpGr at this; exact this
def dpGZ (g m r c : Nat) (Z : Int × Int → Int) (N : Nat) : DP := ⟨fun H => GZ H g m r c Z N, fun k => k = g ∨ k = m, fun H k h e => by
  obtain ⟨l, h, _⟩ := h
  rcases e with rfl | rfl
  · exact h.lts.1
  · exact h.lts.2, fun H H' hd h => by
  obtain ⟨l, h, k⟩ := h
  exact ⟨l, h.de hd, k⟩⟩
section
variable {S : Nat → Prop} {w0 w w' : World} {L : List VB} {D : List DP}
theorem Fr.gz {g m r c N : Nat} {Z : Int × Int → Int} (hF : Fr w0 w L D S) (h : dpGZ g m r c Z N ∈ D) : GZ w.heap g m r c Z N := by
  have := hF.data _ h
  unfold dpGZ at this; exact this
theorem GZ.ext {g m r c N : Nat} {Z : Int × Int → Int} (h : GZ w.heap g m r c Z N) (hE : Ext w w') : GZ w'.heap g m r c Z N := by
  obtain ⟨l, h, k⟩ := h
  exact ⟨l, h.ext hE, k⟩
theorem GZ.lt {H : Array Obj} {g m r c N : Nat} {Z : Int × Int → Int} (h : GZ H g m r c Z N) : g < H.size ∧ m < H.size := by
  obtain ⟨l, h, _⟩ := h
  exact h.lts
theorem Fr.addZ {g m r c N : Nat} {Z : Int × Int → Int} (hF : Fr w0 w L D S) (hE : Ext w w') (hg : w.heap.size ≤ g) (hm : w.heap.size ≤ m) (hG : GZ w'.heap g m r c Z N) : Fr w0 w' L (dpGZ g m r c Z N :: D) S :=
  hF.addNew hE _ (by unfold dpGZ; exact hG) fun k hk => by
    unfold dpGZ at hk
    rcases hk with rfl | rfl
    · exact hg
    · exact hm
theorem Fr.callZ {g m r c N N' : Nat} {Z Z' : Int × Int → Int} (hF : Fr w0 w L (dpGZ g m r c Z N :: D) S) (hE : Exs (fun k => k = m) w w') (hb : w0.heap.size ≤ m ∨ S m) (hfree : ∀ x ∈ D, ¬ x.fp m) (hG : GZ w'.heap g m r c Z' N') : Fr w0 w' L (dpGZ g m r c Z' N' :: D) S := by
  obtain ⟨l, hg, _⟩ := hF.gz (List.mem_cons_self ..)
  obtain ⟨es, k, hm, _⟩ := hg.mp
  refine hF.callX hE hm rfl hb hfree (by unfold dpGZ; exact hG) fun _ h => ?_
  unfold dpGZ at h ⊢; exact h
end
/-- a place of a function, told anew -/
def updZ (Z : Int × Int → Int) (p : Int × Int) (z : Int) (k : Int × Int) : Int := if p = k then z else Z k
/-- a row and kv times another -/
def rowF (Z : Int × Int → Int) (i j kv : Int) (k : Int × Int) : Int := if k.1 = i then Z (i, k.2) + kv * Z (j, k.2) else Z k
end Go.Eng
namespace Go.Proofs.Ytlpheckjogphmaa
open Go Go.Eng Go.Proofs Go.NatM Go.RowKit
end Go.Proofs.Ytlpheckjogphmaa
