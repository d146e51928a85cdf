/- The ladder made: Like, Against, New; rows laid together. hnf.matrix. hnf.Form. hnf.Full: the rows of a and the unit matrix beside them. hnf.Full: the walk. The engine: literals of any number of structs; lists as facts in frames. The engine: a list appended to a new, empty one; a part, of many cells, of an element. -/
import Derived.Test.YthlbihbchobllaaGreatPh11
import Derived.Test.YthlbihbchobllaaGreatPh9
set_option linter.unusedVariables false
set_option linter.unusedSimpArgs false
namespace Go.Eng
open Go Go.RowKit
section
variable {P : Program} {N : Fm} {Q : Exit → Act → World → Prop} {σ : Store} {S : Nat → Prop} {w0 w : World} {L : List VB} {D : List DP} {ops : Array Oper} {d : Nat} {t : TypeId} {pos : String} {af : Array Edge} {rest : List Oper}
/-- .. what is laid on in growing is 0 -/
theorem TL.appendRow {α : Type} {f : α → List Value} (u0 : α) {g n c : Nat} {e : TypeId} {l : List α} {zs : List Value} {L' : List VB} (hF : Fr w0 w L D S) {x y : Operand} {ty : TypeId} [hT : USlice P ty e] {v0 : Value} {z : List Value} {sz b1 : Nat} [hS : USize P e v0 sz b1] (hzv : v0.cells = z.toArray) {a : Addr} {m c' B : Nat} {l' : List α}
    (hx : look σ x = some (.slice (some ⟨g, 0, none⟩) n c)) (hy : look σ y = some (.slice (some a) m c')) (hd : Nat.blt d N.n = true) (hs : Sm sz f w.heap B (some a) m c' l') (h1 : ∀ u, (f u).all (·.oneCell') = true) (hw : ∀ u, (f u).length = sz) (hzl : Nat.beq z.length sz = true) (hzn : z.all noU64 = true)
    (hl : l.length = n) (hzs : zs.length = (c - n) * sz) (hnc : n ≤ c) (hno : (l.flatMap f ++ zs).all noU64 = true)
    (hroom : (n + m) * b1 ≤ 140737488355328 ∧ n + m ≤ 4611686018427387904)
    (hL : SetV L g e (l.flatMap f ++ zs) ((l ++ l').flatMap f ++ zs.drop (m * sz)) L')
    (K1 : n + m ≤ c → ∀ w', Fr w0 w' L' D S → TL P N .seq ops Q rest ((d, .slice (some ⟨g, 0, none⟩) (n + m) c) :: σ) w')
    (hu0 : f u0 = z) (hsz0 : Nat.blt 0 sz = true) (K2 : c < n + m → ∀ w' b c2, n + m ≤ c2 → Fr w0 w' (⟨b, e, ((l ++ l') ++ List.replicate (c2 - (n + m)) u0).flatMap f⟩ :: L) D S → TL P N .seq ops Q rest ((d, .slice (some ⟨b, 0, none⟩) (n + m) c2) :: σ) w') :
    TL P N .seq ops Q (⟨some d, .call { callee := .builtin .append, args := #[x, y], argTypes := #[ty, ty] }, t, pos, af, none⟩ :: rest) σ w := by
  obtain ⟨i, hi, hz0, hsz, hby⟩ := hS.info
  have hl' := hs.len
  have hzl' := Nat.eq_of_beq_eq_true hzl
  have hlf : (l.flatMap f).length = n * sz := by rw [flatMap_len (fun x _ => hw x), hl]
  have hlf' : (l'.flatMap f).length = m * sz := by rw [flatMap_len hs.wid, hl']
  have hV := hF.var hL.inV
  obtain ⟨b0, o0, hab⟩ : ∃ b0 o0, (a = ⟨b0, o0, none⟩ ∨ m = 0) := by
    rcases hs.mem with h | ⟨b, o, h, _⟩
    · exact ⟨0, 0, .inr h⟩
    · cases h; exact ⟨b, o, .inl rfl⟩
  have hnews : ∀ j v, (l'.flatMap f)[j]? = some v → w.cell? (a.add j) = some v := by
    rcases hab with rfl | h
    · exact sm_cells hs rfl
    · intro j v hv
      have := (List.getElem?_eq_some_iff.1 hv).1
      rw [hlf', h, Nat.zero_mul] at this; omega
  have holds : ∀ j v, (l.flatMap f)[j]? = some v → w.cell? ((⟨g, 0, none⟩ : Addr).add j) = some v := fun j v hv => by
    rw [add_mk, cell_of_hcell, Nat.zero_add, hV.cell, List.getElem?_append_left (List.getElem?_eq_some_iff.1 hv).1]; exact hv
  have h1' : ∀ u ∈ l'.flatMap f, u.oneCell' = true := fun u hu => by
    obtain ⟨q, _, hq⟩ := List.mem_flatMap.1 hu
    exact List.all_eq_true.1 (h1 q) u hq
  rcases Nat.lt_or_ge c (n + m) with hcm | hcm
  · have hr := run_append_grow (P := P) w ty t e i v0 hT.out hi hz0 ⟨g, 0, none⟩ n c (l.flatMap f) (by rw [hlf, hsz]) holds a m c' (l'.flatMap f) (by rw [hlf', hsz]) hnews (by omega) (by omega) (growslice_fits (by omega) (by rw [hby]; exact hroom.1))
    have hge := grownCap_ge w (n + m) c e
    have hV2 : Vr (w.drew.alloc (.cells ((l.flatMap f).toArray ++ (l'.flatMap f).toArray ++ Builtin.zeroCells z.toArray (grownCap w (n + m) c e - (n + m))) e)).heap w.heap.size e ((l ++ l').flatMap f ++ (Builtin.zeroCells z.toArray (grownCap w (n + m) c e - (n + m))).toList) := by
      unfold Vr
      have := heap_alloc w.drew (.cells ((l.flatMap f).toArray ++ (l'.flatMap f).toArray ++ Builtin.zeroCells z.toArray (grownCap w (n + m) c e - (n + m))) e)
      rw [show w.drew.heap.size = w.heap.size from rfl] at this
      rw [this]
      congr 2
      apply Array.ext'
      simp
    have hE : Ext w (w.drew.alloc (.cells ((l.flatMap f).toArray ++ (l'.flatMap f).toArray ++ Builtin.zeroCells z.toArray (grownCap w (n + m) c e - (n + m))) e)) := Ext.trans (ext_drewN w 1) (ext_alloc _ _)
    have hz9 : (Builtin.zeroCells z.toArray (grownCap w (n + m) c e - (n + m))).toList = (List.replicate (grownCap w (n + m) c e - (n + m)) u0).flatMap f := by
      have := made_flat (c := grownCap w (n + m) c e - (n + m)) (by simpa [Nat.blt_eq] using hsz0) hu0 hzl'
      rw [← this]
      unfold Builtin.zeroCells madeCells
      rw [List.size_toArray, hzl']
    rw [hz9, ← List.flatMap_append] at hV2
    refine TL.op (fun ρ hρ => ?_) hd (K2 hcm _ _ _ hge (hF.new rfl hV2 hE))
    rw [hzv] at hr
    simp [execOp, resolve, invoke, builtin, hρ x _ hx, hρ y _ hy, hr]
  · have hms : m * sz ≤ (c - n) * sz := Nat.mul_le_mul_right _ (by omega)
    have hr := run_append_room (P := P) w ty t e i hT.out hi g n c (l.flatMap f ++ zs).toArray hV a m c' (l'.flatMap f) (by rw [hlf', hsz]) hnews h1' hcm (by simp [hlf, hlf', hsz, hzs]; omega)
    have e1 : List.take (n * sz) (l.flatMap f ++ zs) = l.flatMap f := by rw [← hlf, List.take_left]
    have e2 : List.drop (n * sz + (l'.flatMap f).length) (l.flatMap f ++ zs) = zs.drop (m * sz) := by rw [← hlf, hlf', List.drop_append, List.drop_of_length_le (by omega)]; simp
    refine TL.op (w' := w.setRow g ((l.flatMap f) ++ l'.flatMap f ++ zs.drop (m * sz)).toArray) (fun ρ hρ => ?_) hd (K1 hcm _ (hF.store hL hno (upd_setRow _ _ _) ?_))
    · simp only [execOp, resolve, invoke, builtin, Sem.run_bind, Sem.run_pure, Result.andThen_ok, List.map_toArray, List.map_cons, List.map_nil, hρ x _ hx, hρ y _ hy]
      rw [hr]
      simp only [Result.andThen_ok, Sem.run_pure, hsz]
      rw [e1, e2]
    · unfold Vr at hV ⊢
      rw [setRow_heap w g _ _ e _ hV, List.flatMap_append]

end
end Go.Eng
namespace Go.Proofs.YthlbihbchobllaaGreat
open Go Go.Eng Go.Proofs Go.NatM Go.RowKit Go.Det

set_option maxRecDepth 100000 in
theorem like_ok (w : World) (g n c : Nat) : Cl Tryz.prog 37 #[.slice (some ⟨g, 0, none⟩) n n] w (fun e w' => ∃ v, e = .returned (.agg (sdF ⟨v, v, g, c, false⟩).toArray) ∧ Fr w w' [⟨v, 48, capV g n⟩] []) := by
  refine enter Tryz.func37 rfl rfl rfl ?_
  have hF := Fr.refl w
  repeat' (first | (refine TL.isOp ?_; first | (apply TL.ev; (case hd => rfl); (case h => (first | exact ev_buildX rfl rfl | exact ev_makeFunc rfl))) | (refine TL.storeAFr hF rfl rfl rfl rfl (by refine ⟨?_, ?_⟩; (focus (repeat (first | apply SetV.head | apply SetV.tail))); rfl) rfl ?_; clear hF; intro ws hF) | (refine TL.boxFr hF (d := 1) rfl rfl ?_; clear hF; intro w1 b1 hF) | (refine TL.allocFr hF (d := 2) rfl rfl ?_; clear hF; intro w2 b2 hF)) | (refine T.is ?_; first | refine T.seq ?_ | refine T.region ?_ | refine T.ret ?_) | (refine G.is ?_; first | refine G.next ?_) | refine TL.nil ?_)
  exact G.retC1 rfl rfl (held_agg (hF.var (b := b2) (by repeat (first | exact InV.head | apply InV.tail))) rfl) ⟨b1, rfl, hF.weak (.cons _ (.refl _)) allN⟩
set_option maxRecDepth 100000 in
theorem against_ok (w : World) (g n c : Nat) : Cl Tryz.prog 19 #[.slice (some ⟨g, 0, none⟩) n n] w (fun e w' => ∃ v v2, e = .returned (.agg (sdF ⟨v, v2, g, c, true⟩).toArray) ∧ Fr w w' [⟨v, 48, capV g n⟩, ⟨v2, 48, capV g n⟩] []) := by
  refine enter Tryz.func19 rfl rfl rfl ?_
  have hF := Fr.refl w
  repeat' (first | (refine TL.isOp ?_; first | (refine TL.isCall ?_; refine TL.call rfl rfl ?_; first | (refine (like_ok _ g n c).mono ?_; rintro _ w5 ⟨v, rfl, hF'⟩; replace hF := Fr.join hF hF' (fun d hd => (by cases hd)); clear hF'; refine Back.mk ?_)) | (apply TL.ev; (case hd => rfl); (case h => (first | (apply Ev.isLoad; first | exact ev_loadFr hF rfl (by refine ⟨?_, ?_⟩; (focus (repeat (first | exact InV.head | apply InV.tail))); rfl) | exact ev_loadAFr hF rfl (by refine ⟨?_, ?_⟩; (focus (repeat (first | exact InV.head | apply InV.tail))); rfl)) | exact ev_fieldAddr rfl | exact ev_makeFunc rfl))) | (refine TL.storeAFr hF rfl rfl rfl rfl (by refine ⟨?_, ?_⟩; (focus (repeat (first | apply SetV.head | apply SetV.tail))); rfl) rfl ?_; clear hF; intro ws hF) | (refine TL.storeFr hF rfl rfl rfl rfl (by refine ⟨?_, ?_⟩; (focus (repeat (first | apply SetV.head | apply SetV.tail))); rfl) rfl ?_; clear hF; intro ws hF) | (refine TL.boxFr hF (d := 1) rfl rfl ?_; clear hF; intro w1 b1 hF) | (refine TL.allocFr hF (d := 2) rfl rfl ?_; clear hF; intro w2 b2 hF) | (refine TL.allocFr hF (d := 3) rfl rfl ?_; clear hF; intro w3 b3 hF)) | (refine T.is ?_; first | refine T.seq ?_ | refine T.region ?_ | refine T.ret ?_) | (refine G.is ?_; first | refine G.next ?_) | refine TL.nil ?_)
  exact G.retC1 rfl rfl (held_agg (hF.var (b := b2) (by repeat (first | exact InV.head | apply InV.tail))) rfl) ⟨v, b1, rfl, (hF.weak (L := [⟨v, 48, capV g n⟩, ⟨b1, 48, capV g n⟩]) (by repeat (first | exact .refl _ | apply List.Sublist.cons_cons | apply List.Sublist.cons)) allN)⟩
set_option maxRecDepth 100000 in
theorem lnew_ok (w : World) (g n c : Nat) : Cl Tryz.prog 18 #[.slice (some ⟨g, 0, none⟩) n n] w (fun e w' => ∃ lb sb v, e = .returned (.pointer (some ⟨lb, 0, none⟩)) ∧ Fr w w' [⟨sb, 60, sdF ⟨v, v, g, c, false⟩⟩, ⟨v, 48, capV g n⟩, ⟨lb, 54, [.slice (some ⟨g, 0, none⟩) n n, .slice (some ⟨sb, 0, none⟩) 1 1]⟩] []) := by
  refine enter Tryz.func18 rfl rfl rfl ?_
  have hF := Fr.refl w
  repeat' (first | (refine TL.isOp ?_; first | (refine TL.isCall ?_; refine TL.call rfl rfl ?_; first | (refine (like_ok _ g n c).mono ?_; rintro _ w5 ⟨v, rfl, hF'⟩; replace hF := Fr.join hF hF' (fun d hd => (by cases hd)); clear hF'; refine Back.mk ?_)) | (apply TL.ev; (case hd => rfl); (case h => (first | exact ev_simple rfl | exact ev_fieldAddr rfl | exact ev_buildX rfl rfl | exact ev_nilCheck rfl))) | (refine TL.storeFr hF rfl rfl rfl rfl (by refine ⟨?_, ?_⟩; (focus (repeat (first | apply SetV.head | apply SetV.tail))); rfl) rfl ?_; clear hF; intro ws hF) | (refine TL.boxAFr hF (d := 6) (cs := [.slice (some ⟨g, 0, none⟩) n n, .slice none 0 0]) rfl rfl ?_; clear hF; intro w6 b6 hF) | (refine TL.buildX1 (f := sdF) (u := ⟨v, v, g, c, false⟩) rfl rfl rfl rfl rfl rfl rfl ?_; intro wn bn ebn hVn hSn hEn hzn; replace hF := hF.new ebn hVn hEn; clear hVn hSn hEn hzn ebn)) | (refine T.is ?_; first | refine T.seq ?_ | refine T.region ?_ | refine T.ret ?_) | (refine G.is ?_; first | refine G.next ?_) | refine TL.nil ?_)
  exact G.ret1 rfl rfl ⟨b6, bn, v, rfl, hF.weak (.refl _) allN⟩
theorem Fr.toLd {S : Nat → Prop} {w0 w : World} {Lb L : List VB} {D : List DP} {lb sb g0 n m : Nat} {T : List Ss} (h : Fr w0 w (Lb ++ L) D S) (hfp : ∀ k, (k = lb ∨ k = sb ∨ ∃ s ∈ T, k = s.v ∨ k = s.v2) → ∃ v ∈ Lb, v.b = k) (hp : LdOk lb sb g0 n m T w.heap) : Fr w0 w L (dpLd lb sb g0 n m T :: D) S := by
  refine (h.weak (List.sublist_append_right _ _) allR).add _ (by unfold dpLd; exact hp) fun v hv hk => ?_
  unfold dpLd at hk
  obtain ⟨u, hu, e⟩ := hfp _ hk
  exact (List.pairwise_append.1 h.dist).2.2 u hu v hv e
/-- rows of a matrix as a side -/
def toQ (x : RB) : RQ := ⟨x.b, x.l⟩
theorem lns_sdL {g n c v v2 : Nat} {b : Bool} {R : List RB} {F : Nat → Nat → Int} (hR : Rws n c R) : lns g c R [] = sdL ⟨v, v2, g, c, b, R.map toQ, F⟩ := by
  unfold lns sdL
  rw [List.append_nil, flat_one, List.map_map, List.map_map]
  congr 2
  apply List.map_congr_left
  intro x hx
  show rowv c x = rowq c (toQ x)
  unfold rowv rowq toQ
  rw [hR.c x hx]
theorem lns_shp {g n c v v2 : Nat} {b : Bool} {R : List RB} {F : Nat → Nat → Int} (hR : Rws n c R) (hc : c ≤ 128) : Shp n ⟨v, v2, g, c, b, R.map toQ, F⟩ :=
  ⟨by show (R.map toQ).length = n; rw [List.length_map]; exact hR.n, fun x hx => by
    obtain ⟨y, hy, rfl⟩ := List.mem_map.1 hx
    show c ≤ y.l.length
    rw [hR.c y hy]; exact Nat.le_refl _, hc⟩
theorem lns_sdk {H : Array Obj} {g n c v v2 K : Nat} {b : Bool} {R : List RB} {F F' : Nat → Nat → Int} (hR : Rws n c R) (h : LsR n c R F K H) (hF : ∀ i q, i < n → q < c → F' i q = F i q) : SdK n K ⟨v, v2, g, c, b, R.map toQ, F'⟩ H := by
  intro i hi q hq
  have h1 := h i hi q hq
  have e1 : ((R.map toQ).getD i default).l = (R.getD i default).l := by
    have hl : i < R.length := by rw [hR.n]; exact hi
    simp [List.getD, hl, toQ]
  show LI H (F' i q) (((R.map toQ).getD i default).l.getD q default) ∧ _
  rw [e1, hF i q hi hq]
  exact h1
/-- the side of a form alone -/
def oneI (fs : List (Bool × Mx)) : Prop := ∃ F, fs = [(false, F)]
theorem oneI_inv (n : Nat) : Inv n oneI := fun o fs _ ⟨F, h⟩ => ⟨o.on false F, by rw [h]; rfl⟩
theorem wb_pow (K : Nat) : ((WB ^ K : Nat) : Int) = 2 ^ (64 * K) := by
  rw [Int.pow_mul, Int.natCast_pow]
  rfl
theorem bd_w {z : Int} {e K : Nat} (h : Bd (2 ^ e) z) (he : e < 64 * K) : z.natAbs < WB ^ K := by
  have h1 : (2 : Int) ^ (e + 1) ≤ 2 ^ (64 * K) := two_pow_le (by omega)
  have h2 := two_pow_pos e
  rw [Int.pow_succ] at h1
  have h3 := wb_pow K
  obtain ⟨h4, h5⟩ := h
  omega
theorem oneI_bd {n K e : Nat} (he : xB e < 64 * K) : BdI n K n (2 ^ xB e) oneI := by
  rintro fs ⟨F, rfl⟩ hb x hx i c hi
  rw [List.mem_singleton.1 hx]
  exact bd_w (hb i c hi) he
set_option maxRecDepth 100000 in
theorem hreduced_ok (w : World) (n K e : Nat) (g c : Nat) (R : List RQ) (F : Mx) (S : Nat → Prop) (hS : Shp n ⟨0, 0, g, c, false, R, F⟩) (hn : n ≤ 64) (hK : K ≤ 4398046511000) (he : xB e < 64 * K) (hA : ∀ i c, Bd (2 ^ e) (F i c)) (hw : ∀ i q, c ≤ q → F i q = 0)
    (hF : Fr w w (sdL ⟨0, 0, g, c, false, R, F⟩) [dpSd n K ⟨0, 0, g, c, false, R, F⟩] S) :
    Cl Tryz.prog 31 #[.slice (some ⟨g, 0, none⟩) n n] w (fun e w' => ∃ (t : Nat) (R' : List RQ) (F' : Mx) (J : Nat → Nat), e = .returned (.tuple #[.slice (some ⟨g, 0, none⟩) n n, .int .i64 (t : Int)]) ∧ Shp n ⟨0, 0, g, c, false, R', F'⟩ ∧ t ≤ n ∧ RedS n t t c F F' J ∧ ((R'.map (·.b)).Perm (R.map (·.b))) ∧ Fr w w' (sdL ⟨0, 0, g, c, false, R', F'⟩) [dpSd n K ⟨0, 0, g, c, false, R', F'⟩] S) := by
  refine enter Tryz.func31 rfl rfl rfl ?_
  repeat' (first | (refine TL.isOp ?_; first | (refine TL.isCall ?_; refine TL.call rfl rfl ?_; first | (refine (lnew_ok _ g n c).mono ?_; rintro _ w5 ⟨lb, sb, v, rfl, hF'⟩; replace hF := Fr.join hF hF' (fun d hd => (by cases hd)); clear hF'; refine Back.mk ?_)) | (apply TL.ev; (case hd => rfl); (case h => (first | exact ev_simple rfl)))) | (refine T.is ?_; first | refine T.seqM 2 rfl ?_ | refine T.region ?_) | (refine G.is ?_; first | refine G.next ?_) | refine TL.nil ?_)
  have hfp : ∀ k, (k = lb ∨ k = sb ∨ ∃ s ∈ [(⟨v, v, g, c, false⟩ : Ss)], k = s.v ∨ k = s.v2) → ∃ u ∈ [(⟨sb, 60, sdF ⟨v, v, g, c, false⟩⟩ : VB), ⟨v, 48, capV g n⟩, ⟨lb, 54, [.slice (some ⟨g, 0, none⟩) n n, .slice (some ⟨sb, 0, none⟩) 1 1]⟩], u.b = k := by
    rintro k (rfl | rfl | ⟨s, hs, h⟩)
    · exact ⟨_, .tail _ (.tail _ (.head _)), rfl⟩
    · exact ⟨_, .head _, rfl⟩
    · rw [List.mem_singleton.1 hs] at h
      rcases h with rfl | rfl
      · exact ⟨_, .tail _ (.head _), rfl⟩
      · exact ⟨_, .tail _ (.head _), rfl⟩
  replace hF := Fr.toLd (lb := lb) (sb := sb) (g0 := g) (n := n) (m := 1) (T := [⟨v, v, g, c, false⟩]) (Lb := [⟨sb, 60, sdF ⟨v, v, g, c, false⟩⟩, ⟨v, 48, capV g n⟩, ⟨lb, 54, [.slice (some ⟨g, 0, none⟩) n n, .slice (some ⟨sb, 0, none⟩) 1 1]⟩]) hF hfp ⟨hF.var (.tail (.tail .head)), ⟨[], hF.var .head⟩, Nat.le_refl _, fun s hs => by
    rw [List.mem_singleton.1 hs]
    exact ⟨hF.var (.tail .head), hF.var (.tail .head)⟩⟩
  clear hfp
  replace hF := Fr.addSds hF (n := n) (K := K) (Q := [⟨v, v, g, c, false, R, F⟩]) (fun s hs => by
    rw [List.mem_singleton.1 hs]
    exact Fr.sd hF (n := n) (K := K) (s := ⟨0, 0, g, c, false, R, F⟩) (by repeat (first | exact memH | apply memT)))
  have hq : sdsL [⟨v, v, g, c, false, R, F⟩] = sdL ⟨0, 0, g, c, false, R, F⟩ := by
    show sdL _ ++ [] = _
    rw [List.append_nil]; rfl
  rw [← hq] at hF
  repeat' (first | (refine TL.isOp ?_; first | (refine TL.isCall ?_; refine TL.call rfl rfl ?_; first | (refine (lreduce_ok _ lb sb n 1 K e ⟨v, v, g, c, false⟩ [] ⟨v, v, g, c, false, R, F⟩ [] _ oneI ⟨rfl, fun s hs => by rw [List.mem_singleton.1 hs]; exact ⟨hS.n, hS.c, hS.c2⟩⟩ rfl (by simp) hn hK (oneI_inv n) ⟨F, rfl⟩ hA hw (oneI_bd he) (Fr.subP [] hF (allH (by repeat (first | exact memH | apply memT)) (allH (by repeat (first | exact memH | apply memT)) allN)))).mono ?_; rintro _ w6 ⟨t, rfl, Q', hR', hSm, hF'⟩; replace hF := Fr.retQ [] hF hSm hF'; clear hF'; refine Back.mk ?_)) | (apply TL.ev; (case hd => rfl); (case h => (first | exact ev_simple rfl | (apply Ev.isLoad; first | exact ev_loadV rfl (Fr.ld hF (by repeat (first | exact memH | apply memT))).ld rfl) | exact ev_fieldAddr rfl | exact ev_nilCheck rfl)))) | (refine T.is ?_; first | refine T.seq ?_ | refine T.region ?_ | refine T.ret ?_) | (refine G.is ?_; first | refine G.next ?_) | refine TL.nil ?_)
  obtain ⟨s1, Qr1, J, rfl, ht, hS1, hI1, hRed⟩ := hR'
  have hst := hS1.st
  obtain ⟨v1, v3, g1, c1, k1, R1, F1⟩ := s1
  have hQ1 : Qr1 = [] := by
    have := congrArg List.length hst
    simpa using this
  subst hQ1
  have e1 : g1 = g := hS1.g
  have e2 : c1 = c := hS1.c
  have e3 : k1 = false := hS1.bk
  subst e1 e2 e3
  have hq1 : sdsL [⟨v1, v3, g1, c1, false, R1, F1⟩] = sdL ⟨0, 0, g1, c1, false, R1, F1⟩ := by
    show sdL _ ++ [] = _
    rw [List.append_nil]; rfl
  have hsh := hS1.shp _ (List.mem_cons_self ..)
  have hpm : (R1.map (·.b)).Perm (R.map (·.b)) := by
    unfold Same at hSm
    rw [hq, hq1, sdL_b, sdL_b] at hSm
    exact List.Perm.cons_inv hSm
  have hk := Fr.sds hF (n := n) (K := K) (Q := [⟨v1, v3, g1, c1, false, R1, F1⟩]) (by repeat (first | exact memH | apply memT)) _ (List.mem_cons_self ..)
  change Fr w _ (sdsL [⟨v1, v3, g1, c1, false, R1, F1⟩]) _ S at hF
  rw [hq1] at hF
  exact G.ret2 rfl rfl rfl ⟨t, R1, F1, J, rfl, ⟨hsh.n, hsh.c, hsh.c2⟩, ht, hRed, hpm, Fr.addSd (hF.weak (D := []) (.refl _) allN) hk⟩
end Go.Proofs.YthlbihbchobllaaGreat

namespace Go.Proofs.YthlbihbchobllaaGreat
open Go Go.Eng Go.Proofs Go.NatM Go.RowKit Go.Det

/-- a header of a row -/
structure HV where
  A : Option Addr
  k : Nat
  l : List IV
instance : Inhabited HV := ⟨⟨none, 0, []⟩⟩
def hvv (c : Nat) (x : HV) : Value := .slice x.A c x.k
/-- numbers laid row by row -/
def FlK (c q : Nat) (zl : List IV) (F : Nat → Nat → Int) (K : Nat) (H : Array Obj) : Prop := ∀ i j, j < c → i * c + j < q → LI H (F i j) (zl.getD (i * c + j) default) ∧ (zl.getD (i * c + j) default).m.n ≤ K
def dpFl (c q : Nat) (zl : List IV) (F : Nat → Nat → Int) (K : Nat) : DP := ⟨FlK c q zl F K, fun _ => False, fun _ _ _ h => h.elim, fun _ _ hd h i j hj hq => ⟨(h i j hj hq).1.de hd, (h i j hj hq).2⟩⟩
section
variable {S : Nat → Prop} {w0 w w' : World} {L : List VB} {D : List DP}
theorem Fr.addFl (h : Fr w0 w L D S) {c q K : Nat} {zl : List IV} {F : Nat → Nat → Int} (k : FlK c q zl F K w.heap) : Fr w0 w L (dpFl c q zl F K :: D) S := h.add _ k fun _ _ h => h
theorem Fr.fl (h : Fr w0 w L D S) {c q K : Nat} {zl : List IV} {F : Nat → Nat → Int} (hm : dpFl c q zl F K ∈ D) : FlK c q zl F K w.heap := h.data _ hm
end
attribute [irreducible] dpFl

theorem place_eq {c i j i' j' : Nat} (hj : j < c) (hj' : j' < c) (h : i * c + j = i' * c + j') : i = i' ∧ j = j' := by
  have h1 : (i * c + j) / c = i := by rw [Nat.add_comm, Nat.add_mul_div_right _ _ (by omega), Nat.div_eq_of_lt hj, Nat.zero_add]
  have h2 : (i' * c + j') / c = i' := by rw [Nat.add_comm, Nat.add_mul_div_right _ _ (by omega), Nat.div_eq_of_lt hj', Nat.zero_add]
  have e : i = i' := by rw [← h1, h, h2]
  subst e
  exact ⟨rfl, by omega⟩
theorem FlK.snoc {H : Array Obj} {c i j K : Nat} {zl : List IV} {F : Nat → Nat → Int} {u : IV} (h : FlK c (i * c + j) zl F K H) (hl : zl.length = i * c + j) (hj : j < c) (hu : LI H (F i j) u) (hn : u.m.n ≤ K) : FlK c (i * c + (j + 1)) (zl ++ [u]) F K H := by
  intro i' j' hj' hq
  rcases Nat.lt_or_ge (i' * c + j') (i * c + j) with h1 | h1
  · have e1 : (zl ++ [u]).getD (i' * c + j') default = zl.getD (i' * c + j') default := by simp only [List.getD]; rw [List.getElem?_append_left (by omega)]
    rw [e1]; exact h i' j' hj' h1
  · have e2 : i' * c + j' = i * c + j := by omega
    obtain ⟨rfl, rfl⟩ := place_eq hj' hj e2
    have e1 : (zl ++ [u]).getD (i' * c + j') default = u := by rw [← hl]; simp [List.getD]
    rw [e1]; exact ⟨hu, hn⟩
structure HmS where
  j : Nat
  zl : List IV
  zs : List Value
set_option maxRecDepth 100000 in
set_option maxHeartbeats 16000000 in
theorem hmatrix_ok (w : World) (g n c K : Nat) (hv : List HV) (F : Nat → Nat → Int) (hn : n ≤ 64) (hc64 : c ≤ 64) (hK : K ≤ 35184372088832) (hlen : hv.length = n) (hV : Vr w.heap g 22 (hv.map (hvv c))) (hL : ∀ i, i < n → LL w.heap (hv.getD i default).A c (hv.getD i default).k (hv.getD i default).l (F i) K) :
    Cl Tryz.prog 21 #[.slice (some ⟨g, 0, none⟩) n n, .int .i64 (c : Int)] w (RetM w n c F K) := by
  have hm := mul64 hn hc64
  refine enter Tryz.func21 rfl rfl rfl ?_
  have hF := Fr.refl w
  repeat' (first | (refine TL.isOp ?_; first | (apply TL.ev; (case hd => rfl); (case h => (first | exact ev_simple rfl | (apply Ev.isBin; first | exact ev_arN rfl rfl rfl (by omega)) | exact ev_len rfl | exact ev_buildX rfl rfl))) | (refine TL.storeAFr hF rfl rfl rfl rfl (by refine ⟨?_, ?_⟩; (focus (repeat (first | apply SetV.head | apply SetV.tail))); rfl) rfl ?_; clear hF; intro ws hF) | (refine TL.allocFr hF (d := 4) rfl rfl ?_; clear hF; intro w4 b4 hF) | (refine TL.allocFr hF (d := 5) rfl rfl ?_; clear hF; intro w5 b5 hF) | (refine TL.makeFr hF ivc ⟨false, ⟨none, 0, 0, []⟩⟩ (d := 17) rfl rfl rfl (Nat.zero_le _) (by omega) rfl rfl rfl ?_; clear hF; intro w17 b17 hF)) | (refine T.is ?_; first | refine T.seq ?_ | refine T.region ?_ | refine T.block ?_) | (refine G.is ?_; first | refine G.next ?_) | refine TL.nil ?_)
  refine T.loop (α := HmS) (fun z => [(19, .slice (some ⟨g, 0, none⟩) n n), (20, .int .i64 (n : Int)), (21, .int .i64 (z.j : Int)), (5, .pointer (some ⟨b5, 0, none⟩)), (4, .pointer (some ⟨b4, 0, none⟩))])
    (fun z w' => z.j ≤ n ∧ z.zl.length = z.j * c ∧ z.zs.length = (n * c - z.j * c) * 2 ∧ z.zs.all noU64 = true ∧ Fr w w' [⟨b5, 24, [.int .i64 (n : Int), .int .i64 (c : Int), .slice (some ⟨b17, 0, none⟩) (z.j * c) (n * c)]⟩, ⟨b17, 43, z.zl.flatMap ivc ++ z.zs⟩, ⟨b4, 24, [.int .i64 0, .int .i64 0, .slice none 0 0]⟩] [dpFl c (z.j * c) z.zl F K])
    (fun z => n - z.j) ⟨0, [], (List.replicate (n * c) (⟨false, ⟨none, 0, 0, []⟩⟩ : IV)).flatMap ivc⟩ (by repeat (first | exact Sub.nil _ | refine Sub.cons rfl ?_ | refine Sub.cons' rfl (int_congr (by omega)) ?_)) ⟨Nat.zero_le _, by simp, by dsimp only; rw [flatMap_len (k := 2) (fun _ _ => rfl)]; simp, ivc_noV _, by
      have h0 := Fr.addFl hF (c := c) (q := 0) (zl := []) (F := F) (K := K) (fun i j _ hq => absurd hq (Nat.not_lt_zero _))
      dsimp only
      rw [Nat.zero_mul]
      exact h0.weak (.refl _) (allH (by repeat (first | exact memH | apply memT)) allN)⟩ ?_
  clear hF
  rintro ⟨i, zl, zs⟩ w2 ⟨hi, hzl, hzs, hzn, hF⟩
  dsimp only at hi hzl hzs hzn hF ⊢
  rcases Nat.lt_or_ge i n with hin | hin
  · obtain ⟨y, hy⟩ : ∃ y, hv[i]? = some y := ⟨_, List.getElem?_eq_getElem (by omega)⟩
    have hyd : hv.getD i default = y := by simp [List.getD, hy]
    have hLi := hL i hin
    rw [hyd] at hLi
    have hrow : i * c + c ≤ n * c := by have := Nat.mul_le_mul_right c (show i + 1 ≤ n from hin); rw [Nat.add_mul, Nat.one_mul] at this; exact this
    have hi1 : (i + 1) * c = i * c + c := by rw [Nat.add_mul, Nat.one_mul]
    have hVr : ∀ {d : Option Tmp} {t : TypeId} {pos : String} {af : Array Edge} {gd : Option (Nat × Bool)} {σ : Store} {x : Operand} {w1 : World}, Ext w w1 → Eng.look σ x = some (.pointer (elemA (some ⟨g, 0, none⟩) i)) → Ev Tryz.prog σ w1.heap ⟨d, .load 22 x, t, pos, af, gd⟩ (.slice y.A c y.k) := by
      intro d t pos af gd σ x w1 hE hx
      refine ev_loadV (b := g) (o := i) (by rw [hx]; simp [elemA, add_mk]) (hV.ext hE) ?_
      rw [nthV_eq, List.getElem?_map, hy]; rfl
    have hA := hLi.s.some
    repeat' (first | (refine TL.isOp ?_; first | (refine TL.isBin ?_; refine TL.cmpG rfl rfl rfl rfl (fun hc => ?_) (fun hc => ?_) <;> (try (first | (exfalso; omega) | exact absurd rfl hc))) | (apply TL.ev; (case hd => rfl); (case h => (first | exact ev_simple rfl | exact ev_len rfl | exact ev_indexN rfl rfl hin (.inr rfl) | exact (hVr hF.ext rfl))))) | (refine T.is ?_; first | refine T.seq ?_ | refine T.region ?_ | refine T.block ?_ | refine T.cond_t rfl ?_ | refine T.skip ?_) | (refine G.is ?_; first | refine G.next ?_) | refine TL.nil ?_)
    refine T.loop (α := HmS) (fun z => [(19, .slice (some ⟨g, 0, none⟩) n n), (20, .int .i64 (n : Int)), (21, .int .i64 (i : Int)), (5, .pointer (some ⟨b5, 0, none⟩)), (4, .pointer (some ⟨b4, 0, none⟩)), (25, .slice y.A c y.k), (26, .int .i64 (c : Int)), (27, .int .i64 (z.j : Int))])
      (fun z w' => z.j ≤ c ∧ z.zl.length = i * c + z.j ∧ z.zs.length = (n * c - (i * c + z.j)) * 2 ∧ z.zs.all noU64 = true ∧ Fr w w' [⟨b5, 24, [.int .i64 (n : Int), .int .i64 (c : Int), .slice (some ⟨b17, 0, none⟩) (i * c + z.j) (n * c)]⟩, ⟨b17, 43, z.zl.flatMap ivc ++ z.zs⟩, ⟨b4, 24, [.int .i64 0, .int .i64 0, .slice none 0 0]⟩] [dpFl c (i * c + z.j) z.zl F K])
      (fun z => c - z.j) ⟨0, zl, zs⟩ (by repeat (first | exact Sub.nil _ | refine Sub.cons rfl ?_ | refine Sub.cons' rfl (int_congr (by omega)) ?_)) ⟨Nat.zero_le _, hzl, hzs, hzn, hF⟩ ?_
    clear hF
    clear hzl hzs hzn
    rintro ⟨j, zl, zs⟩ w3 ⟨hj, hzl, hzs, hzn, hF⟩
    dsimp only at hj hzl hzs hzn hF ⊢
    rcases Nat.lt_or_ge j c with hjc | hjc
    · have hyj : y.l[j]? = some (y.l.getD j default) := by have := hLi.s.len; simp [List.getD, show j < y.l.length by omega]
      have hLj := hLi.g j hjc
      obtain ⟨⟨xn, ⟨xA, xm, xc, xl⟩⟩, ex⟩ : ∃ x, y.l.getD j default = x := ⟨_, rfl⟩
      rw [ex] at hyj hLj
      obtain ⟨hLx, hKx⟩ := hLj
      dsimp only at hKx
      repeat' (first | (refine TL.isOp ?_; first | (refine TL.isCall ?_; refine TL.call rfl rfl ?_; first | (refine (zleast_ok _ ⟨xn, ⟨xA, xm, xc, xl⟩⟩ (hLx.g.ext hF.ext) (by dsimp only; omega)).mono ?_; rintro _ w5 ⟨u, rfl, hLu, hE5, hKu⟩; rw [hLx.val] at hLu; dsimp only at hKu; replace hF := Fr.addLI (hF.exts hE5) hLu; clear hE5 hLu; refine Back.mk ?_)) | (refine TL.isBin ?_; refine TL.cmpG rfl rfl rfl rfl (fun hc => ?_) (fun hc => ?_) <;> (try (first | (exfalso; omega) | exact absurd rfl hc))) | (apply TL.ev; (case hd => rfl); (case h => (first | exact ev_simple rfl | (apply Ev.isBin; first | exact ev_arN rfl rfl rfl (by omega)) | (apply Ev.isLoad; first | exact ev_loadM rfl (hLi.s.ext hF.ext) hyj) | exact ev_indexM rfl rfl hjc hA))) | (refine TL.storeAFr hF rfl rfl rfl rfl (by refine ⟨?_, ?_⟩; (focus (repeat (first | apply SetV.head | apply SetV.tail))); rfl) rfl ?_; clear hF; intro ws hF) | (refine TL.storeFr hF rfl rfl rfl rfl (by refine ⟨?_, ?_⟩; (focus (repeat (first | apply SetV.head | apply SetV.tail))); rfl) rfl ?_; clear hF; intro ws hF) | (refine TL.allocFr hF (d := 9) rfl rfl ?_; clear hF; intro w9 b9 hF) | (refine TL.buildX1 (f := ivc) (u := u) rfl rfl rfl rfl rfl rfl rfl ?_; intro wn bn ebn hVn hSn hEn hzn9; replace hF := hF.exts hEn; clear hVn ebn hzn9 hEn) | (refine TL.appendAtFr (f := ivc) (l := zl) (zs := zs) hF rfl rfl rfl rfl hSn (fun _ => rfl) (fun _ => rfl) rfl rfl hzl hzs (by omega) (ivc_all zl zs hzn) (by omega) (by repeat (first | apply SetV.head | apply SetV.tail)) (fun hle wm hFn => ?_) (fun hgr => absurd hgr (by omega)); clear hF hSn; have hF := hFn; clear hFn)) | (refine TF.is ?_; first | refine TF.nil ?_ | refine TF.e rfl ?_ | (refine TF.pick rfl ?_; first | (apply TFo.ev; (case hd => rfl); (case h => (intro wh hF; first | (apply Ev.isLoad; first | exact ev_loadFr hF rfl (by refine ⟨?_, ?_⟩; (focus (repeat (first | exact InV.head | apply InV.tail))); rfl) | exact ev_loadAFr hF rfl (by refine ⟨?_, ?_⟩; (focus (repeat (first | exact InV.head | apply InV.tail))); rfl)) | exact ev_fieldAddr rfl))))) | (refine T.is ?_; first | refine T.seq ?_ | refine T.region ?_ | refine T.block ?_ | refine T.cond_t rfl ?_ | refine T.skip ?_ | (refine T.regionFs [b17] hF (by repeat (first | (apply Outs.drop; (focus (first | exact OutM.head | exact OutM.tail OutM.head | exact OutM.tail (OutM.tail OutM.head)))) | apply Outs.keep | exact Outs.nil)) 8 7 (.s 0 (.s 1 (.s 2 (.e 3 (.e 4 (.e 5 (.s 6 (.e 7 .nil)))))))) mixed (by kernel_rfl) ?_; clear hF; intro wr hF)) | (refine G.is ?_; first | refine G.next ?_ | refine G.blockN ?_ | refine G.only ?_ | refine G.treeEnd rfl ?_ | refine G.tree rfl (hF.weak (by repeat (first | exact List.Sublist.refl _ | apply List.Sublist.cons_cons | apply List.Sublist.cons)) (by repeat (first | exact allR | apply allT))) ?_) | refine TL.nil ?_)
      have hk := (Fr.fl hF (c := c) (q := i * c + j) (zl := zl) (F := F) (K := K) (by repeat (first | exact memH | apply memT))).snoc hzl hjc (Fr.li hF (x := u) (by repeat (first | exact memH | apply memT))) (by omega)
      exact G.again ⟨j + 1, zl ++ [u], zs.drop (1 * 2)⟩ (by repeat (first | exact Sub.nil _ | refine Sub.cons rfl ?_ | refine Sub.cons' rfl (int_congr (by omega)) ?_)) ⟨hjc, by dsimp only; rw [List.length_append, hzl]; rfl, by dsimp only; rw [List.length_drop, hzs]; omega, drop_noV hzn _, (Fr.addFl hF hk).weak (.cons _ (.refl _)) (allH (by repeat (first | exact memH | apply memT)) allN)⟩ (by dsimp only; omega)
    · obtain rfl : j = c := by omega
      repeat' (first | (refine TL.isOp ?_; first | (refine TL.isBin ?_; refine TL.cmpG rfl rfl rfl rfl (fun hc => ?_) (fun hc => ?_) <;> (try (first | (exfalso; omega) | exact absurd rfl hc))) | (apply TL.ev; (case hd => rfl); (case h => (first | exact ev_simple rfl | (apply Ev.isBin; first | exact ev_arN rfl rfl rfl (by omega)))))) | (refine T.is ?_; first | refine T.seq ?_ | refine T.region ?_ | refine T.cond_f rfl ?_ | refine T.exit ?_) | (refine G.is ?_; first | refine G.next ?_ | refine G.blockN ?_ | refine G.blockE ?_ | refine G.thenE ?_) | refine TL.nil ?_)
      exact G.again ⟨i + 1, zl, zs⟩ (by repeat (first | exact Sub.nil _ | refine Sub.cons rfl ?_ | refine Sub.cons' rfl (int_congr (by omega)) ?_)) ⟨by dsimp only; omega, by dsimp only; omega, by dsimp only; rw [hi1]; exact hzs, hzn, by dsimp only; rw [hi1]; exact hF⟩ (by dsimp only; omega)
  · obtain rfl : i = n := by omega
    repeat' (first | (refine TL.isOp ?_; first | (refine TL.isBin ?_; refine TL.cmpG rfl rfl rfl rfl (fun hc => ?_) (fun hc => ?_) <;> (try (first | (exfalso; omega) | exact absurd rfl hc))) | (apply TL.ev; (case hd => rfl); (case h => (first | (apply Ev.isLoad; first | exact ev_loadAFr hF rfl (by refine ⟨?_, ?_⟩; (focus (repeat (first | exact InV.head | apply InV.tail))); rfl))))) | (refine TL.storeAFr hF rfl rfl rfl rfl (by refine ⟨?_, ?_⟩; (focus (repeat (first | apply SetV.head | apply SetV.tail))); rfl) rfl ?_; clear hF; intro ws hF)) | (refine T.is ?_; first | refine T.seq ?_ | refine T.region ?_ | refine T.cond_f rfl ?_ | refine T.exit ?_ | refine T.ret ?_) | (refine G.is ?_; first | refine G.next ?_ | refine G.blockE ?_ | refine G.thenE ?_) | refine TL.nil ?_)
    have hfl := Fr.fl hF (c := c) (q := i * c) (zl := zl) (F := F) (K := K) (by repeat (first | exact memH | apply memT))
    refine G.retC1 rfl rfl (held_agg (hF.var (b := b4) (by repeat (first | exact InV.head | apply InV.tail))) rfl) ⟨⟨i, c, some ⟨b17, 0, none⟩, i * c, i * c, zl⟩, rfl, ⟨⟨rfl, rfl, hn, hc64, rfl⟩, vr_sm (zs := zs) (by omega) (fun _ _ => rfl) (hF.var (b := b17) (by repeat (first | exact InV.head | apply InV.tail))) hzl (Nat.le_refl _) (hF.var (b := b17) (by repeat (first | exact InV.head | apply InV.tail))).lt, fun p q hp hq => hfl p q hq (place_lt hp hq)⟩, hF.ext, .inr ⟨b17, rfl, ?_⟩⟩
    rcases hF.lo (b := b17) (by repeat (first | exact InV.head | apply InV.tail)) with h | h
    · exact h
    · exact h.elim
end Go.Proofs.YthlbihbchobllaaGreat

namespace Go.Proofs.YthlbihbchobllaaGreat
open Go Go.Eng Go.Proofs Go.NatM Go.RowKit Go.Det

/-- a matrix as rows of any length, zero outside -/
def mxOf (x : MV) (r c : Nat) : Mx := fun i q => if i < r ∧ q < c then ent x c i q else 0
theorem mxOf_in {x : MV} {r c i q : Nat} (hi : i < r) (hq : q < c) : mxOf x r c i q = ent x c i q := if_pos ⟨hi, hq⟩
theorem mxOf_out {x : MV} {r c i q : Nat} (h : c ≤ q) : mxOf x r c i q = 0 := if_neg (by omega)
theorem bd_of_w {z : Int} {e K : Nat} (h : z.natAbs < WB ^ K) (he : 64 * K ≤ e) : Bd (2 ^ e) z := by
  have h1 : (2 : Int) ^ (64 * K) ≤ 2 ^ e := two_pow_le he
  have h3 := wb_pow K
  exact ⟨by omega, by omega⟩
theorem mxOf_bd {H : Array Obj} {x : MV} {r c K e : Nat} (g : GM H x r c K) (he : 64 * K ≤ e) : ∀ i q, Bd (2 ^ e) (mxOf x r c i q) := fun i q => by
  unfold mxOf
  split
  · rename_i h
    have hp : i * c + q < x.l.length := by rw [g.s.len, g.sh.n]; exact place_lt h.1 h.2
    have hm := g.g _ (List.getElem_mem hp)
    have e1 : x.l.getD (i * c + q) default = x.l[i * c + q] := by simp [List.getD, hp]
    refine bd_of_w (K := K) ?_ he
    unfold ent
    rw [e1]
    exact Nat.lt_of_lt_of_le hm.1.abs_lt' (Nat.pow_le_pow_right (by decide) hm.2)
  · have := two_pow_pos e
    exact ⟨by omega, by omega⟩
/-- a side's rows as headers -/
def hvOf (c : Nat) (x : RQ) : HV := ⟨some ⟨x.b, 0, none⟩, x.l.length, x.l.take c⟩
theorem row_ll {H : Array Obj} {c K : Nat} {x : RQ} {Z : Nat → Int} (hV : Vr H x.b 43 (x.l.flatMap ivc)) (hc : c ≤ x.l.length) (hk : LsK c x.l Z K H) : LL H (some ⟨x.b, 0, none⟩) c x.l.length (x.l.take c) Z K := by
  refine ⟨vr_sm (t := 43) (zs := (x.l.drop c).flatMap ivc) (by omega) (fun _ _ => rfl) ?_ (by rw [List.length_take]; omega) hc hV.lt, fun q hq => ?_⟩
  · rw [← List.flatMap_append, List.take_append_drop]; exact hV
  · have e1 : (x.l.take c).getD q default = x.l.getD q default := by simp [List.getD, List.getElem?_take, hq]
    rw [e1]; exact hk q hq
theorem hv_map {c : Nat} {R : List RQ} : R.map (rowq c) = (R.map (hvOf c)).map (hvv c) := by
  rw [List.map_map]; rfl
theorem hv_ll {S : Nat → Prop} {w0 w : World} {L : List VB} {D : List DP} {n K i : Nat} {s : Sd} (hF : Fr w0 w L D S) (hS : Shp n s) (hd : SdK n K s w.heap) (hsub : ∀ v ∈ sdL s, v ∈ L) (hi : i < n) : LL w.heap ((s.R.map (hvOf s.c)).getD i default).A s.c ((s.R.map (hvOf s.c)).getD i default).k ((s.R.map (hvOf s.c)).getD i default).l (s.F i) K := by
  obtain ⟨x, hx, hc, hxd⟩ := hS.at hi
  have e1 : (s.R.map (hvOf s.c)).getD i default = hvOf s.c x := by simp [List.getD, hx]
  rw [e1]
  have hV : Vr w.heap x.b 43 (x.l.flatMap ivc) := (hF.vars (rqVB x) (hsub _ (List.mem_cons_of_mem _ (List.mem_map.2 ⟨x, List.mem_of_getElem? hx, rfl⟩)))).2
  refine row_ll hV hc ?_
  have := hd i hi
  rwa [hxd] at this
def RetForm (w : World) (x : MV) (r c K : Nat) (e : Ending) (w' : World) : Prop :=
  ∃ (y : MV) (F : Mx) (t : Nat) (J : Nat → Nat), e = .returned (.tuple #[.agg (mvc y).toArray, .int .i64 0]) ∧ LM w'.heap y r c F K ∧ t ≤ r ∧ RedS r t t c (mxOf x r c) F J ∧ Ext w w' ∧ MF w y
set_option maxRecDepth 100000 in
set_option maxHeartbeats 8000000 in
theorem hform_ok (w : World) (x : MV) (r c K0 K e : Nat) (gx : GM w.heap x r c K0) (h0 : K0 ≤ K) (hK : K ≤ 4398046511000) (h64 : 64 * K0 ≤ e) (he : xB e < 64 * K) :
    Cl Tryz.prog 12 #[.agg (mvc x).toArray] w (RetForm w x r c K) := by
  have hr := gx.sh.r64
  have hc64 := gx.sh.c64
  have hA := mxOf_bd gx h64
  have hent : ∀ i q, i < r → q < c → mxOf x r c i q = ent x c i q := fun i q hi hq => mxOf_in hi hq
  have hout : ∀ i q, c ≤ q → mxOf x r c i q = 0 := fun i q hq => mxOf_out hq
  obtain ⟨A, hAe⟩ : ∃ A, mxOf x r c = A := ⟨_, rfl⟩
  unfold RetForm
  rw [hAe] at hA hent hout ⊢
  have hck := fun w1 => chk_ok w1 x r c gx.sh
  have hln := fun w1 (hE : Ext w w1) => hlines_ok w1 x r c K0 (gx.ext hE) (by omega)
  have hs0 := gx.sh
  generalize ent x c = E at *
  obtain ⟨xr, xc, A1, n1, k1, l1⟩ := x
  obtain ⟨hr1, hc1, _, _, hn1⟩ := hs0
  dsimp only at hr1 hc1 hn1
  subst hr1 hc1 hn1
  refine enter Tryz.func12 rfl rfl rfl ?_
  have hF := Fr.refl w
  repeat' (first | (refine TL.isOp ?_; first | (refine TL.isCall ?_; refine TL.call rfl rfl ?_; first | (refine (hck _).mono ?_; rintro _ w3 ⟨rfl, hE⟩; replace hF := hF.exts hE; clear hE; refine Back.mk ?_) | (refine (hln _ hF.ext).mono ?_; rintro _ w3 ⟨g, R, rfl, hR, hF'⟩; replace hF := Fr.pm (Fr.join hF hF' ln_fp) List.perm_append_comm; rw [lns_sdL (v := 0) (v2 := 0) (b := false) (F := A) hR] at hF; replace hF := Fr.addSd hF (n := r) (K := K) (s := ⟨0, 0, g, c, false, R.map toQ, A⟩) (fun i hi => (lns_sdk hR (Fr.ln hF (n := r) (c := c) (R := R) (F := E) (K := K0) (by repeat (first | exact memH | apply memT))) hent i hi).mono' h0); clear hF'; refine Back.mk ?_) | (refine (hreduced_ok _ r K e g c (R.map toQ) A _ (lns_shp hR (by omega)) hr hK he hA hout (Fr.subP [_, _] hF (allH (by repeat (first | exact memH | apply memT)) allN))).mono ?_; rintro _ w4 ⟨t, R', F', J, rfl, hS', ht, hRed, hpm, hF'⟩; replace hF := Fr.retSd [_, _] (s := ⟨0, 0, g, c, false, R.map toQ, A⟩) hF hpm hF'; clear hF'; refine Back.mk ?_) | (refine (hmatrix_ok _ g r c K (R'.map (hvOf c)) F' hr hc64 (by omega) (by rw [List.length_map]; exact hS'.n) (by rw [← hv_map]; exact hF.var (.tail (.tail InV.sdg))) (fun i hi => hv_ll (s := ⟨0, 0, g, c, false, R', F'⟩) hF hS' (Fr.sd hF (by repeat (first | exact memH | apply memT))) (fun v hv => List.mem_append_right _ hv) hi)).mono ?_; rintro _ w5 ⟨y, rfl, hLy, hE5, hMf⟩; have hE0 := hF.ext; replace hF := Fr.addLM hF hE5 hLy hMf; refine Back.mk ?_)) | (refine TL.isBin ?_; refine TL.cmpG rfl rfl rfl rfl (fun hc => ?_) (fun hc => ?_) <;> (try (first | (exfalso; omega) | exact absurd rfl hc))) | (apply TL.ev; (case hd => rfl); (case h => (first | exact ev_simple rfl | (apply Ev.isLoad; first | exact ev_loadFr hF rfl (by refine ⟨?_, ?_⟩; (focus (repeat (first | exact InV.head | apply InV.tail))); rfl) | exact ev_loadAFr hF rfl (by refine ⟨?_, ?_⟩; (focus (repeat (first | exact InV.head | apply InV.tail))); rfl)) | exact ev_fieldAddr rfl))) | (refine TL.storeAFr hF rfl rfl rfl rfl (by refine ⟨?_, ?_⟩; (focus (repeat (first | apply SetV.head | apply SetV.tail))); rfl) rfl ?_; clear hF; intro ws hF) | (refine TL.boxAFr hF (d := 1) (cs := [.int .i64 (r : Int), .int .i64 (c : Int), .slice A1 (r * c) k1]) rfl rfl ?_; clear hF; intro w1 b1 hF) | (refine TL.allocFr hF (d := 2) rfl rfl ?_; clear hF; intro w2 b2 hF)) | (refine T.is ?_; first | refine T.seq ?_ | refine T.region ?_ | refine T.cond_f rfl ?_ | refine T.ret ?_ | refine T.skip ?_) | (refine G.is ?_; first | refine G.next ?_) | refine TL.nil ?_)
  exact G.retC2 rfl rfl rfl (held_agg (hF.var (b := b2) (by repeat (first | exact InV.head | apply InV.tail))) rfl) ⟨y, F', t, J, rfl, Fr.lm hF (by repeat (first | exact memH | apply memT)), ht, hRed, hF.ext, hMf.mono hE0.size⟩
end Go.Proofs.YthlbihbchobllaaGreat

namespace Go.Eng
open Go Go.RowKit
theorem InV.toSet {L : List VB} {b : Nat} {t : TypeId} {cs r : List Value} (h : InV L b t cs) : ∃ L', SetV L b t cs r L' := by
  induction h with
  | head => exact ⟨_, .head⟩
  | tail _ ih => obtain ⟨L', h'⟩ := ih; exact ⟨_, .tail h'⟩
section
variable {P : Program} {N : Fm} {Q : Exit → Act → World → Prop} {σ : Store} {S : Nat → Prop} {w0 w : World} {L : List VB} {D : List DP} {ops : Array Oper} {d : Nat} {t : TypeId} {pos : String} {af : Array Edge} {rest : List Oper}
/-- laid on to a full slice -/
theorem TL.appendFull {α : Type} {f : α → List Value} (u0 : α) {g n : Nat} {e : TypeId} {l : List α} (hF : Fr w0 w L D S) {x y : Operand} {ty : TypeId} [hT : USlice P ty e] {v0 : Value} {z : List Value} {sz b1 : Nat} [hS : USize P e v0 sz b1] (hzv : v0.cells = z.toArray) {a : Addr} {m c' B : Nat} {l' : List α}
    (hx : look σ x = some (.slice (some ⟨g, 0, none⟩) n n)) (hy : look σ y = some (.slice (some a) m c')) (hd : Nat.blt d N.n = true) (hs : Sm sz f w.heap B (some a) m c' l') (h1 : ∀ u, (f u).all (·.oneCell') = true) (hw : ∀ u, (f u).length = sz) (hzl : Nat.beq z.length sz = true) (hzn : z.all noU64 = true)
    (hl : l.length = n) (hno : (l.flatMap f).all noU64 = true) (hroom : (n + m) * b1 ≤ 140737488355328 ∧ n + m ≤ 4611686018427387904) (hm : 0 < m)
    (hL : InV L g e (l.flatMap f)) (hu0 : f u0 = z) (hsz0 : Nat.blt 0 sz = true)
    (K2 : ∀ w' b c2, n + m ≤ c2 → Fr w0 w' (⟨b, e, ((l ++ l') ++ List.replicate (c2 - (n + m)) u0).flatMap f⟩ :: L) D S → TL P N .seq ops Q rest ((d, .slice (some ⟨b, 0, none⟩) (n + m) c2) :: σ) w') :
    TL P N .seq ops Q (⟨some d, .call { callee := .builtin .append, args := #[x, y], argTypes := #[ty, ty] }, t, pos, af, none⟩ :: rest) σ w := by
  obtain ⟨L', hL'⟩ := InV.toSet (r := (l ++ l').flatMap f ++ ([] : List Value).drop (m * sz)) hL
  have e0 : l.flatMap f = l.flatMap f ++ [] := (List.append_nil _).symm
  rw [e0] at hL' hno
  refine TL.appendRow u0 (zs := []) hF hzv hx hy hd hs h1 hw hzl hzn hl (by simp) (Nat.le_refl _) hno hroom hL' (fun h => absurd h (by omega)) hu0 hsz0 (fun _ w' b c2 h hF' => K2 w' b c2 h hF')
end
end Go.Eng
namespace Go.Proofs.YthlbihbchobllaaGreat
open Go Go.Eng Go.Proofs Go.NatM Go.RowKit Go.Det

/-- a row put in another's place -/
theorem Fr.putRow {S : Nat → Prop} {w0 w : World} {Pr Z : List VB} {D : List DP} {R : List RQ} {i : Nat} {x : RQ} (h : Fr w0 w (rqVB x :: (Pr ++ (R.map rqVB ++ Z))) D S) (hi : i < R.length) : Fr w0 w (Pr ++ ((R.set i x).map rqVB ++ Z)) D S := by
  have hp : (R[i] :: R.set i x).Perm (x :: R) := perm_set R i x R[i] (List.getElem?_eq_getElem hi)
  have h2 : (Pr ++ ((R[i] :: R.set i x).map rqVB ++ Z)).Perm (rqVB x :: (Pr ++ (R.map rqVB ++ Z))) := by
    refine ((List.Perm.refl Pr).append ((hp.map rqVB).append (List.Perm.refl Z))).trans ?_
    rw [List.map_cons, List.cons_append]
    exact List.perm_middle
  refine (Fr.pm h h2).weak ?_ allR
  refine (List.Sublist.refl Pr).append ?_
  rw [List.map_cons, List.cons_append]
  exact List.Sublist.cons _ (List.Sublist.refl _)
/-- rows of which the first i are wide -/
def WdK (n i c c' K : Nat) (R : List RQ) (G : Mx) (H : Array Obj) : Prop := ∀ p, p < n → LsK (if p < i then c' else c) (R.getD p default).l (G p) K H
def dpWd (n i c c' K : Nat) (R : List RQ) (G : Mx) : DP := ⟨WdK n i c c' K R G, fun _ => False, fun _ _ _ h => h.elim, fun _ _ hd h p hp q hq => ⟨(h p hp q hq).1.de hd, (h p hp q hq).2⟩⟩
section
variable {S : Nat → Prop} {w0 w w' : World} {L : List VB} {D : List DP}
theorem Fr.addWd (h : Fr w0 w L D S) {n i c c' K : Nat} {R : List RQ} {G : Mx} (k : WdK n i c c' K R G w.heap) : Fr w0 w L (dpWd n i c c' K R G :: D) S := h.add _ k fun _ _ h => h
theorem Fr.wd (h : Fr w0 w L D S) {n i c c' K : Nat} {R : List RQ} {G : Mx} (hm : dpWd n i c c' K R G ∈ D) : WdK n i c c' K R G w.heap := h.data _ hm
end
attribute [irreducible] dpWd

/-- A and the unit matrix beside it -/
def wideOf (A : Mx) (r c : Nat) : Mx := fun i q => if q < c then A i q else if q - c < r ∧ i = q - c then 1 else 0
def unitOf (r : Nat) : Mx := fun i j => if j < r ∧ i = j then 1 else 0
structure Fus where
  i : Nat
  hs : List Value
  R : List RQ
structure WdI (r c i : Nat) (hs : List Value) (R : List RQ) : Prop where
  hl : hs.length = r
  rl : R.length = r
  no : hs.all noU64 = true
  old : ∀ p, i ≤ p → p < r → hs[p]? = some (rowq c (R.getD p default)) ∧ (R.getD p default).l.length = c
  new : ∀ p, p < i → hs[p]? = some (rowq (c + r) (R.getD p default)) ∧ c + r ≤ (R.getD p default).l.length
theorem WdI.step {r c i b c2 : Nat} {hs : List Value} {R : List RQ} {l : List IV} (h : WdI r c i hs R) (hi : i < r) (hl : l.length = c2) (hc : c + r ≤ c2) : WdI r c (i + 1) (hs.set i (.slice (some ⟨b, 0, none⟩) (c + r) c2)) (R.set i ⟨b, l⟩) := by
  have hil : i < R.length := by rw [h.rl]; exact hi
  refine ⟨by rw [List.length_set]; exact h.hl, by rw [List.length_set]; exact h.rl, all_set h.no rfl, fun p hp hpr => ?_, fun p hp => ?_⟩
  · rw [getD_set_ne' (by omega), List.getElem?_set_ne (by omega)]
    exact h.old p (by omega) hpr
  · by_cases e : p = i
    · subst e
      rw [getD_set_eq' hil]
      refine ⟨?_, by show c + r ≤ l.length; omega⟩
      rw [List.getElem?_set, if_pos rfl, if_pos (by rw [h.hl]; exact hi)]
      unfold rowq
      rw [hl]
    · rw [getD_set_ne' e, List.getElem?_set_ne (fun h => e h.symm)]
      exact h.new p (by omega)
theorem WdI.fin {r c : Nat} {hs : List Value} {R : List RQ} (h : WdI r c r hs R) : hs = R.map (rowq (c + r)) ∧ ∀ x ∈ R, c + r ≤ x.l.length := by
  constructor
  · apply List.ext_getElem?
    intro p
    rcases Nat.lt_or_ge p r with h1 | h1
    · rw [(h.new p h1).1, List.getElem?_map]
      have hp : p < R.length := by rw [h.rl]; exact h1
      simp [List.getD, hp]
    · rw [List.getElem?_eq_none (by rw [h.hl]; exact h1), List.getElem?_eq_none (by rw [List.length_map, h.rl]; exact h1)]
  · intro x hx
    obtain ⟨p, hp⟩ := List.getElem?_of_mem hx
    have hlt := (List.getElem?_eq_some_iff.1 hp).1
    have := (h.new p (by rw [← h.rl]; exact hlt)).2
    rwa [show R.getD p default = x by simp [List.getD, hp]] at this
theorem WdK.step {H : Array Obj} {r i c K b k : Nat} {R : List RQ} {G : Mx} {xl ul : List IV} {u0 : IV} {Z : Nat → Int} (h : WdK r i c (c + r) K R G H) (hR : R.length = r) (hi : i < r) (hx : (R.getD i default).l = xl) (hxl : xl.length = c) (hul : ul.length = r) (hu : LsK r ul Z K H) (hZ : ∀ q, q < r → G i (c + q) = Z q) : WdK r (i + 1) c (c + r) K (R.set i ⟨b, (xl ++ ul) ++ List.replicate k u0⟩) G H := by
  intro p hp
  by_cases e : p = i
  · subst e
    rw [if_pos (Nat.lt_succ_self _), getD_set_eq' (by rw [hR]; exact hi)]
    intro q hq
    have h1 := h p hi
    rw [if_neg (Nat.lt_irrefl _), hx] at h1
    show LI H (G p q) (((xl ++ ul) ++ List.replicate k u0).getD q default) ∧ _
    have e2 : ((xl ++ ul) ++ List.replicate k u0).getD q default = (xl ++ ul).getD q default := by
      simp only [List.getD]; rw [List.getElem?_append_left (by rw [List.length_append]; omega)]
    rw [e2]
    rcases Nat.lt_or_ge q c with h2 | h2
    · have e3 : (xl ++ ul).getD q default = xl.getD q default := by simp only [List.getD]; rw [List.getElem?_append_left (by omega)]
      rw [e3]; exact h1 q h2
    · have e3 : (xl ++ ul).getD q default = ul.getD (q - c) default := by simp only [List.getD]; rw [List.getElem?_append_right (by omega), hxl]
      have h4 := hZ (q - c) (by omega)
      rw [show c + (q - c) = q by omega] at h4
      rw [e3, h4]
      exact hu (q - c) (by omega)
  · rw [getD_set_ne' e]
    have h1 := h p hp
    have e2 : (p < i + 1) = (p < i) := by simp; omega
    simp only [e2]
    exact h1
theorem WdI.start {r c : Nat} {R : List RB} (hR : Rws r c R) : WdI r c 0 ((R.map toQ).map (rowq c)) (R.map toQ) := by
  refine ⟨by rw [List.length_map, List.length_map]; exact hR.n, by rw [List.length_map]; exact hR.n, ?_, fun p _ hp => ?_, fun p hp => absurd hp (Nat.not_lt_zero _)⟩
  · rw [List.all_eq_true]
    intro v hv
    obtain ⟨x, _, rfl⟩ := List.mem_map.1 hv
    rfl
  · obtain ⟨x, hx, hl, hd⟩ := hR.at hp
    have e1 : (R.map toQ).getD p default = toQ x := by simp [List.getD, hx]
    rw [e1, List.getElem?_map, List.getElem?_map, hx]
    exact ⟨rfl, hl⟩
theorem wd_start {H : Array Obj} {r c K : Nat} {R : List RB} {F G : Mx} (hR : Rws r c R) (h : LsR r c R F K H) (hG : ∀ i q, i < r → q < c → G i q = F i q) : WdK r 0 c (c + r) K (R.map toQ) G H := by
  intro p hp q hq
  rw [if_neg (Nat.not_lt_zero _)] at hq
  exact lns_sdk (v := 0) (v2 := 0) (g := 0) (b := false) hR h hG p hp q hq
theorem ev_hs {P : Program} {σ : Store} {d : Option Tmp} {t : TypeId} {pos : String} {af : Array Edge} {gd : Option (Nat × Bool)} {S : Nat → Prop} {w0 w : World} {L : List VB} {D : List DP} (hF : Fr w0 w L D S) {x : Operand} {ty e : TypeId} [hO : UOne P ty] {b i : Nat} {v : Value} {hs : List Value} (hx : Eng.look σ x = some (.pointer (elemA (some ⟨b, 0, none⟩) i))) (hi : hs[i]? = some v) (hV : InV L b e hs) : Ev P σ w.heap ⟨d, .load ty x, t, pos, af, gd⟩ v := by
  refine ev_loadV (b := b) (o := i) (by rw [hx]; simp [elemA, add_mk]) (hF.var hV) ?_
  rw [nthV_eq]; exact hi
theorem ev_rowqc {P : Program} {σ : Store} {d : Option Tmp} {t : TypeId} {pos : String} {af : Array Edge} {gd : Option (Nat × Bool)} {S : Nat → Prop} {w0 w : World} {L : List VB} {D : List DP} {c c' : Nat} (hc : c = c') (hF : Fr w0 w L D S) {x : Operand} {ty e : TypeId} [hO : UOne P ty] {g i : Nat} {R : List RQ} {r : RQ} (hx : Eng.look σ x = some (.pointer (elemA (some ⟨g, 0, none⟩) i))) (hR : R[i]? = some r) (hV : InV L g e (R.map (rowq c))) : Ev P σ w.heap ⟨d, .load ty x, t, pos, af, gd⟩ (.slice (some ⟨r.b, 0, none⟩) c' r.l.length) := by
  subst hc; exact ev_rowq hF hx hR hV
theorem sd_lk {H : Array Obj} {n K i : Nat} {s : Sd} {x : RQ} (h : SdK n K s H) (hi : i < n) (hx : s.R[i]? = some x) : LsK s.c x.l (s.F i) K H := by
  have := h i hi
  rwa [show s.R.getD i default = x by simp [List.getD, hx]] at this
/-- what Full keeps of its two sides -/
def WideI (n m : Nat) (A : Mx) (fs : List (Bool × Mx)) : Prop := ∃ G V, fs = [(false, G), (true, V)] ∧ Wide n m A G V ∧ ∀ p q, p < n → n ≤ q → V p q = 0
theorem WideI.inv (n m : Nat) (A : Mx) : Inv n (WideI n m A) := fun o fs ho ⟨G, V, h0, h1, h2⟩ => ⟨o.on false G, o.on true V, by rw [h0]; rfl, h1.opn ho, fun p q hp hq => Opn.col (e := true) (fun p hp => h2 p q hp hq) ho p hp⟩
theorem WideI.bd {n m K X : Nat} {A : Mx} (hn : n ≤ 64) (hX : X + 6 < K) : BdI n K n (2 ^ X) (WideI n m A) := by
  rintro fs ⟨G, V, rfl, h1, h2⟩ hb x hx
  have hp := two_pow_pos X
  have hGb : BdW n K G := fun i c hi => bd_w (hb i c hi) (by omega)
  have hVb : BdW n K V := fun i q hi => by
    rcases Nat.lt_or_ge q n with h | h
    · have h3 := h1.vbd (M := 2 ^ X) (by omega) (fun i c hi hc => hb i (m + c) hi) hi h
      refine bd_w (e := 64 * (X + 6)) (h3.mono (Int.le_trans (bdt_pow hn) (two_pow_le (Nat.mul_le_mul_right _ hn)))) (by omega)
    · rw [h2 i q hi h]
      exact Nat.pow_pos (by decide)
  rcases List.mem_cons.1 hx with rfl | hx
  · exact hGb
  · rw [List.mem_singleton.1 hx]; exact hVb
theorem wideOf_bd {A : Mx} {r c e : Nat} (h : ∀ i q, Bd (2 ^ e) (A i q)) : ∀ i q, Bd (2 ^ e) (wideOf A r c i q) := fun i q => by
  have hp := two_pow_pos e
  unfold wideOf
  split
  · exact h i q
  · split
    · exact ⟨by omega, by omega⟩
    · exact ⟨by omega, by omega⟩
theorem wide_start {A : Mx} {r c : Nat} : Wide r c A (wideOf A r c) (unitOf r) := by
  refine Wide.start (fun i q hi hq => ?_) (fun i q hi hq => ?_) (fun i q hi hq => ?_)
  · unfold wideOf; rw [if_pos hq]
  · unfold wideOf
    rw [if_neg (by omega), Nat.add_sub_cancel_left]
    by_cases h : i = q <;> simp [h, hq]
  · unfold unitOf
    by_cases h : i = q <;> simp [h, hq]
/-- headers of parts of rows -/
structure HdI (n k c r : Nat) (R : List RQ) (hh hu : List Value) : Prop where
  hl : hh.length = n
  ul : hu.length = n
  hn : hh.all noU64 = true
  un : hu.all noU64 = true
  h : ∀ p, p < k → hh[p]? = some (hvv c (hvOf c (R.getD p default)))
  u : ∀ p, p < k → hu[p]? = some (hvv r ⟨cutM 2 (some ⟨(R.getD p default).b, 0, none⟩) (R.getD p default).l.length c, (R.getD p default).l.length - c, ((R.getD p default).l.drop c).take r⟩)
def hvTail (c r : Nat) (x : RQ) : HV := ⟨cutM 2 (some ⟨x.b, 0, none⟩) x.l.length c, x.l.length - c, (x.l.drop c).take r⟩
theorem HdI.step {n k c r : Nat} {R : List RQ} {hh hu : List Value} {x : RQ} (h : HdI n k c r R hh hu) (hk : k < n) (hx : R[k]? = some x) : HdI n (k + 1) c r R (hh.set k (.slice (some ⟨x.b, 0, none⟩) c x.l.length)) (hu.set k (.slice (cutM 2 (some ⟨x.b, 0, none⟩) x.l.length c) r (x.l.length - c))) := by
  have hxd : R.getD k default = x := by simp [List.getD, hx]
  refine ⟨by rw [List.length_set]; exact h.hl, by rw [List.length_set]; exact h.ul, all_set h.hn rfl, all_set h.un rfl, fun p hp => ?_, fun p hp => ?_⟩
  · by_cases e : p = k
    · subst e
      rw [List.getElem?_set, if_pos rfl, if_pos (by rw [h.hl]; exact hk), hxd]; rfl
    · rw [List.getElem?_set_ne (fun h => e h.symm)]; exact h.h p (by omega)
  · by_cases e : p = k
    · subst e
      rw [List.getElem?_set, if_pos rfl, if_pos (by rw [h.ul]; exact hk), hxd]; rfl
    · rw [List.getElem?_set_ne (fun h => e h.symm)]; exact h.u p (by omega)
theorem HdI.fin {n c r : Nat} {R : List RQ} {hh hu : List Value} (h : HdI n n c r R hh hu) (hR : R.length = n) : hh = (R.map (hvOf c)).map (hvv c) ∧ hu = (R.map (hvTail c r)).map (hvv r) := by
  constructor
  · apply List.ext_getElem?
    intro p
    rcases Nat.lt_or_ge p n with h1 | h1
    · have hp : p < R.length := by omega
      rw [h.h p h1, List.getElem?_map, List.getElem?_map]
      simp [List.getD, hp]
    · rw [List.getElem?_eq_none (by rw [h.hl]; exact h1), List.getElem?_eq_none (by rw [List.length_map, List.length_map, hR]; exact h1)]
  · apply List.ext_getElem?
    intro p
    rcases Nat.lt_or_ge p n with h1 | h1
    · have hp : p < R.length := by omega
      rw [h.u p h1, List.getElem?_map, List.getElem?_map]
      simp [List.getD, hp, hvTail]
    · rw [List.getElem?_eq_none (by rw [h.ul]; exact h1), List.getElem?_eq_none (by rw [List.length_map, List.length_map, hR]; exact h1)]
theorem HdI.start (n c r : Nat) (R : List RQ) : HdI n 0 c r R (List.replicate n (.slice none 0 0)) (List.replicate n (.slice none 0 0)) :=
  ⟨List.length_replicate .., List.length_replicate .., by simp [List.all_eq_true, noU64], by simp [List.all_eq_true, noU64], fun p hp => absurd hp (Nat.not_lt_zero _), fun p hp => absurd hp (Nat.not_lt_zero _)⟩
/-- the front of a row, and the tail -/
theorem front_ll {H : Array Obj} {c c' K : Nat} {x : RQ} {Z : Nat → Int} (hV : Vr H x.b 43 (x.l.flatMap ivc)) (hc : c' ≤ x.l.length) (hcc : c ≤ c') (hk : LsK c' x.l Z K H) : LL H (hvOf c x).A c (hvOf c x).k (hvOf c x).l Z K := row_ll hV (by omega) fun q hq => hk q (by omega)
theorem tail_ll {H : Array Obj} {c r K : Nat} {x : RQ} {Z : Nat → Int} (hV : Vr H x.b 43 (x.l.flatMap ivc)) (hc : c + r ≤ x.l.length) (hk : LsK (c + r) x.l Z K H) : LL H (hvTail c r x).A r (hvTail c r x).k (hvTail c r x).l (fun q => Z (c + q)) K := by
  have h0 : Sm 2 ivc H H.size (some ⟨x.b, 0, none⟩) x.l.length x.l.length x.l := vr_sm (t := 43) (zs := []) (by omega) (fun _ _ => rfl) (by rw [List.append_nil]; exact hV) rfl (Nat.le_refl _) hV.lt
  have h1 := h0.dropTake (i := c) (j := c + r) (m := x.l.length) (m' := x.l.length - c) (by omega) hc (Nat.le_refl _) (by omega)
  rw [Nat.add_sub_cancel_left] at h1
  refine ⟨h1, fun q hq => ?_⟩
  have e1 : (hvTail c r x).l.getD q default = x.l.getD (c + q) default := by
    show ((x.l.drop c).take r).getD q default = _
    simp [List.getD, List.getElem?_take, hq, List.getElem?_drop]
  rw [e1]
  exact hk (c + q) (by omega)
theorem side_row {S : Nat → Prop} {w0 w : World} {L : List VB} {D : List DP} {n K i : Nat} {s : Sd} (hF : Fr w0 w L D S) (hS : Shp n s) (hd : SdK n K s w.heap) (hsub : ∀ v ∈ sdL s, v ∈ L) (hi : i < n) : ∃ x, s.R[i]? = some x ∧ s.R.getD i default = x ∧ s.c ≤ x.l.length ∧ Vr w.heap x.b 43 (x.l.flatMap ivc) ∧ LsK s.c x.l (s.F i) K w.heap := by
  obtain ⟨x, hx, hc, hxd⟩ := hS.at hi
  have hk := hd i hi
  rw [hxd] at hk
  exact ⟨x, hx, hxd, hc, (hF.vars (rqVB x) (hsub _ (List.mem_cons_of_mem _ (List.mem_map.2 ⟨x, List.mem_of_getElem? hx, rfl⟩)))).2, hk⟩
theorem hv_front {S : Nat → Prop} {w0 w : World} {L : List VB} {D : List DP} {n K i c : Nat} {s : Sd} (hF : Fr w0 w L D S) (hS : Shp n s) (hd : SdK n K s w.heap) (hsub : ∀ v ∈ sdL s, v ∈ L) (hcc : c ≤ s.c) (hi : i < n) : LL w.heap ((s.R.map (hvOf c)).getD i default).A c ((s.R.map (hvOf c)).getD i default).k ((s.R.map (hvOf c)).getD i default).l (s.F i) K := by
  obtain ⟨x, hx, hxd, hc, hV, hk⟩ := side_row hF hS hd hsub hi
  have e1 : (s.R.map (hvOf c)).getD i default = hvOf c x := by simp [List.getD, hx]
  rw [e1]
  exact front_ll hV hc hcc hk
theorem hv_tail {S : Nat → Prop} {w0 w : World} {L : List VB} {D : List DP} {n K i c r : Nat} {s : Sd} (hF : Fr w0 w L D S) (hS : Shp n s) (hd : SdK n K s w.heap) (hsub : ∀ v ∈ sdL s, v ∈ L) (hcc : s.c = c + r) (hi : i < n) : LL w.heap ((s.R.map (hvTail c r)).getD i default).A r ((s.R.map (hvTail c r)).getD i default).k ((s.R.map (hvTail c r)).getD i default).l (fun q => s.F i (c + q)) K := by
  obtain ⟨x, hx, hxd, hc, hV, hk⟩ := side_row hF hS hd hsub hi
  have e1 : (s.R.map (hvTail c r)).getD i default = hvTail c r x := by simp [List.getD, hx]
  rw [hcc] at hc hk
  rw [e1]
  exact tail_ll hV hc hk
theorem lm_congr {H : Array Obj} {x : MV} {r c K : Nat} {F F' : Nat → Nat → Int} (h : LM H x r c F K) (e : ∀ i j, i < r → j < c → F i j = F' i j) : LM H x r c F' K := ⟨h.sh, h.s, fun i j hi hj => by rw [← e i j hi hj]; exact h.g i j hi hj⟩
theorem lm_ent {H : Array Obj} {x : MV} {r c K i j : Nat} {F : Nat → Nat → Int} (h : LM H x r c F K) (hi : i < r) (hj : j < c) : ent x c i j = F i j := (h.g i j hi hj).1.val
structure Hus where
  k : Nat
  hh : List Value
  hu : List Value
structure Hfs where
  b : Nat
  h : MV
  u : MV
end Go.Proofs.YthlbihbchobllaaGreat

namespace Go.Proofs.YthlbihbchobllaaGreat
open Go Go.Eng Go.Proofs Go.NatM Go.RowKit Go.Det

def RetFull (w : World) (x : MV) (r c K : Nat) (e : Ending) (w' : World) : Prop :=
  ∃ (h u v : MV) (G V : Mx) (J : Nat → Nat), e = .returned (.tuple #[.agg (mvc h ++ mvc u ++ mvc v).toArray, .int .i64 0]) ∧ LM w'.heap h r c G K ∧ LM w'.heap u r r (fun i q => G i (c + q)) K ∧ LM w'.heap v r r (fun i j => V j i) K ∧ Wide r c (mxOf x r c) G V ∧ RedS r r r (c + r) (wideOf (mxOf x r c) r c) G J ∧ Ext w w'
set_option maxRecDepth 100000 in
set_option maxHeartbeats 32000000 in
theorem hfull_ok (w : World) (x : MV) (r c K0 K e : Nat) (gx : GM w.heap x r c K0) (h0 : K0 ≤ K) (h1K : 1 ≤ K0) (hK : K ≤ 4398046511000) (h64 : 64 * K0 ≤ e) (he : xB e + 6 < K) :
    Cl Tryz.prog 5 #[.agg (mvc x).toArray] w (RetFull w x r c K) := by
  have hr := gx.sh.r64
  have hc64 := gx.sh.c64
  have hA := mxOf_bd gx h64
  have hent : ∀ i q, i < r → q < c → mxOf x r c i q = ent x c i q := fun i q hi hq => mxOf_in hi hq
  have hout : ∀ i q, c ≤ q → mxOf x r c i q = 0 := fun i q hq => mxOf_out hq
  have hck := fun w1 => chk_ok w1 x r c gx.sh
  have hln := fun w1 (hE : Ext w w1) => hlines_ok w1 x r c K0 (gx.ext hE) (by omega)
  have hs0 := gx.sh
  unfold RetFull
  obtain ⟨A, hAe⟩ : ∃ A, mxOf x r c = A := ⟨_, rfl⟩
  rw [hAe] at hA hent hout ⊢
  generalize ent x c = E at *
  obtain ⟨xr, xc, A1, n1, k1, l1⟩ := x
  obtain ⟨hr1, hc1, _, _, hn1⟩ := hs0
  dsimp only at hr1 hc1 hn1
  subst hr1 hc1 hn1
  obtain ⟨G0, hG0⟩ : ∃ G0, wideOf A r c = G0 := ⟨_, rfl⟩
  rw [hG0]
  have hGa : ∀ i q, i < r → q < c → G0 i q = E i q := fun i q hi hq => by rw [← hG0]; unfold wideOf; rw [if_pos hq]; exact hent i q hi hq
  have hGb : ∀ i q, q < r → G0 i (c + q) = if i = q then 1 else 0 := fun i q hq => by
    rw [← hG0]; unfold wideOf
    rw [if_neg (by omega), Nat.add_sub_cancel_left]
    by_cases h : i = q <;> simp [h, hq]
  have hGc : ∀ i q, c + r ≤ q → G0 i q = 0 := fun i q hq => by
    rw [← hG0]; unfold wideOf
    rw [if_neg (by omega), if_neg (by omega)]
  refine enter Tryz.func5 rfl rfl rfl ?_
  have hF := Fr.refl w
  repeat' (first | (refine TL.isOp ?_; first | (refine TL.isCall ?_; refine TL.call rfl rfl ?_; first | (refine (hck _).mono ?_; rintro _ w3 ⟨rfl, hE⟩; replace hF := hF.exts hE; clear hE; refine Back.mk ?_) | (refine (munit_ok _ r hr).mono ?_; rintro _ w3 ⟨⟨ur, uc, uA, un, uk, ul⟩, rfl, hLu, hE, hMf⟩; have hus := hLu.sh; obtain ⟨hu1, hu2, _, _, hu3⟩ := hus; dsimp only at hu1 hu2 hu3; subst hu1 hu2 hu3; replace hF := Fr.addLM hF hE hLu hMf; clear hE hLu hMf; refine Back.mk ?_) | (refine (hln _ hF.ext).mono ?_; rintro _ w3 ⟨g, R, rfl, hR, hF'⟩; replace hF := Fr.pm (Fr.join hF hF' ln_fp) List.perm_append_comm; clear hF'; refine Back.mk ?_) | (refine (hlines_ok _ ⟨r, r, uA, r * r, uk, ul⟩ r r 1 (Fr.lm hF (by repeat (first | exact memH | apply memT))).gm (by omega)).mono ?_; rintro _ w4 ⟨gu, Ru, rfl, hRu, hF'⟩; replace hF := Fr.pm (Fr.join hF hF' ln_fp) List.perm_append_comm; clear hF'; refine Back.mk ?_)) | (refine TL.isBin ?_; refine TL.cmpG rfl rfl rfl rfl (fun hc => ?_) (fun hc => ?_) <;> (try (first | (exfalso; omega) | exact absurd rfl hc))) | (apply TL.ev; (case hd => rfl); (case h => (first | exact ev_simple rfl | (apply Ev.isLoad; first | exact ev_loadFr hF rfl (by refine ⟨?_, ?_⟩; (focus (repeat (first | exact InV.head | apply InV.tail))); rfl) | exact ev_loadAFr hF rfl (by refine ⟨?_, ?_⟩; (focus (repeat (first | exact InV.head | apply InV.tail))); rfl)) | exact ev_len rfl | exact ev_fieldAddr rfl))) | (refine TL.storeAFr hF rfl rfl rfl rfl (by refine ⟨?_, ?_⟩; (focus (repeat (first | apply SetV.head | apply SetV.tail))); rfl) rfl ?_; clear hF; intro ws hF) | (refine TL.boxAFr hF (d := 1) (cs := [.int .i64 (r : Int), .int .i64 (c : Int), .slice A1 (r * c) k1]) rfl rfl ?_; clear hF; intro w1 b1 hF) | (refine TL.allocFr hF (d := 2) rfl rfl ?_; clear hF; intro w2 b2 hF) | (refine TL.allocFr hF (d := 5) rfl rfl ?_; clear hF; intro w5 b5 hF)) | (refine T.is ?_; first | refine T.seq ?_ | refine T.region ?_ | refine T.block ?_ | refine T.cond_f rfl ?_ | refine T.skip ?_) | (refine G.is ?_; first | refine G.next ?_) | refine TL.nil ?_)
  have hd5 := (Fr.lm hF (x := ⟨r, r, uA, r * r, uk, ul⟩) (r := r) (c := r) (by repeat (first | exact memH | apply memT)))
  have huv : ∀ i q, i < r → q < r → unitOf r i q = ent ⟨r, r, uA, r * r, uk, ul⟩ r i q := fun i q hi hq => by
    have h1 := (hd5.g i q hi hq).1.val
    unfold ent
    rw [h1]; unfold unitOf
    by_cases h : i = q <;> simp [h, hq]
  clear hd5
  rw [lns_sdL (v := 0) (v2 := 0) (b := false) (F := G0) hR, lns_sdL (v := 0) (v2 := 0) (b := false) (F := unitOf r) hRu] at hF
  obtain ⟨su, hsu⟩ : ∃ su : Sd, su = ⟨0, 0, gu, r, false, Ru.map toQ, unitOf r⟩ := ⟨_, rfl⟩
  have hSu : Shp r su := by rw [hsu]; exact lns_shp hRu (by omega)
  have hcu : su.c = r := by rw [hsu]
  have hgu : su.g = gu := by rw [hsu]
  have hFu : su.F = unitOf r := by rw [hsu]
  replace hF := Fr.addSd hF (n := r) (K := 1) (s := su) (by rw [hsu]; exact lns_sdk hRu (Fr.ln hF (by repeat (first | exact memH | apply memT))) huv)
  replace hF := Fr.addWd hF (wd_start hR (Fr.ln hF (R := R) (n := r) (c := c) (F := E) (K := K0) (by repeat (first | exact memH | apply memT))) hGa)
  rw [← hsu] at hF
  change Fr w w4 (([_, _, _] ++ (⟨g, 22, (R.map toQ).map (rowq c)⟩ :: (R.map toQ).map rqVB)) ++ sdL su) _ _ at hF
  rw [List.append_assoc] at hF
  refine T.loop (α := Fus) (fun z => [(1, .pointer (some ⟨b1, 0, none⟩)), (2, .pointer (some ⟨b2, 0, none⟩)), (5, .pointer (some ⟨b5, 0, none⟩)), (7, .slice (some ⟨g, 0, none⟩) r r), (32, .slice (some ⟨gu, 0, none⟩) r r), (33, .int .i64 (r : Int)), (34, .int .i64 (z.i : Int))])
    (fun z w' => z.i ≤ r ∧ WdI r c z.i z.hs z.R ∧ Fr w w' (⟨b5, 24, [.int .i64 (r : Int), .int .i64 (r : Int), .slice uA (r * r) uk]⟩ :: ⟨b2, 27, [.int .i64 0, .int .i64 0, .slice none 0 0, .int .i64 0, .int .i64 0, .slice none 0 0, .int .i64 0, .int .i64 0, .slice none 0 0]⟩ :: ⟨b1, 24, [.int .i64 (r : Int), .int .i64 (c : Int), .slice A1 (r * c) k1]⟩ :: ⟨g, 22, z.hs⟩ :: (z.R.map rqVB ++ sdL su)) [dpWd r z.i c (c + r) K0 z.R G0, dpSd r 1 su, dpLM ⟨r, r, uA, r * r, uk, ul⟩ r r (fun i j => if i = j then 1 else 0) 1])
    (fun z => r - z.i) ⟨0, (R.map toQ).map (rowq c), R.map toQ⟩ (by repeat (first | exact Sub.nil _ | refine Sub.cons rfl ?_ | refine Sub.cons' rfl (int_congr (by omega)) ?_)) ⟨Nat.zero_le _, WdI.start hR, hF.weak (.refl _) (allH (by repeat (first | exact memH | apply memT)) (allH (by repeat (first | exact memH | apply memT)) (allH (by repeat (first | exact memH | apply memT)) allN)))⟩ ?_
  clear hF
  rintro ⟨i, hs, Rz⟩ w5 ⟨hi, hW, hF⟩
  dsimp only at hi hW hF ⊢
  rcases Nat.lt_or_ge i r with hir | hir
  · obtain ⟨xu, hxu⟩ := sd_get hSu hir
    have hcxu := hSu.c xu (List.mem_of_getElem? hxu)
    rw [hcu] at hcxu
    obtain ⟨x, hx⟩ : ∃ x, Rz[i]? = some x := ⟨_, List.getElem?_eq_getElem (by rw [hW.rl]; exact hir)⟩
    have hxd : Rz.getD i default = x := by simp [List.getD, hx]
    obtain ⟨hs1, hxl⟩ := hW.old i (Nat.le_refl _) hir
    rw [hxd] at hs1 hxl
    have hsi : hs[i]? = some (.slice (some ⟨x.b, 0, none⟩) c c) := by rw [hs1]; unfold rowq; rw [hxl]
    have hlu := fun {L' : List VB} {D' : List DP} {w' : World} (hF : Fr w w' L' D') (hm : dpSd r 1 su ∈ D') (hV : InV L' xu.b 43 (xu.l.flatMap ivc)) => (row_ll (c := r) (K := 1) (Z := su.F i) (hF.var hV) hcxu (by have := sd_lk (Fr.sd hF hm) hir hxu; rwa [hcu] at this))
    repeat' (first | (refine TL.isOp ?_; first | (refine TL.isBin ?_; refine TL.cmpG rfl rfl rfl rfl (fun hc => ?_) (fun hc => ?_) <;> (try (first | (exfalso; omega) | exact absurd rfl hc))) | (apply TL.ev; (case hd => rfl); (case h => (first | exact ev_simple rfl | (apply Ev.isBin; first | exact ev_arN rfl rfl rfl (by omega)) | exact ev_indexN rfl rfl hir (.inr rfl) | exact (ev_hs hF rfl hsi (by repeat (first | apply InV.head | apply InV.tail))) | exact (ev_rowqc hcu hF rfl hxu (by repeat (first | exact InV.pre (hgu ▸ InV.sdg) | apply InV.tail)))))) | (refine TL.appendFull (f := ivc) ⟨false, ⟨none, 0, 0, []⟩⟩ (l := x.l) hF rfl rfl rfl rfl (hlu hF (by repeat (first | exact memH | apply memT)) (by repeat (first | exact InV.pre (InV.sdr hxu) | apply InV.tail))).s (fun _ => rfl) (fun _ => rfl) rfl rfl hxl (ivc_noV _) (by omega) (by omega) (by repeat (first | exact InV.mapq hx rfl | apply InV.tail)) rfl rfl ?_; clear hF; intro wa ba c2 hc2 hF) | (refine TL.storeRow hF (i := i) (vs := hs) (v := .slice (some ⟨ba, 0, none⟩) (c + r) c2) rfl rfl rfl rfl (by rw [hW.hl]; exact hir) hW.no (by repeat (first | apply SetV.head | apply SetV.tail)) ?_; clear hF; intro ws hF)) | (refine T.is ?_; first | refine T.seq ?_ | refine T.region ?_ | refine T.block ?_ | refine T.cond_t rfl ?_ | refine T.skip ?_) | (refine G.is ?_; first | refine G.next ?_ | refine G.blockN ?_) | refine TL.nil ?_)
    have hll := hlu hF (by repeat (first | exact memH | apply memT)) (by repeat (first | exact InV.pre (InV.sdr hxu) | apply InV.tail))
    have hul : (xu.l.take r).length = r := by rw [List.length_take]; omega
    have hk := (Fr.wd hF (n := r) (i := i) (c := c) (c' := c + r) (K := K0) (R := Rz) (G := G0) (by repeat (first | exact memH | apply memT))).step (b := ba) (k := c2 - (c + r)) (u0 := ⟨false, ⟨none, 0, 0, []⟩⟩) (xl := x.l) (ul := xu.l.take r) (Z := su.F i) hW.rl hir (by rw [hxd]) hxl hul (hll.g.mono' h1K) (fun q hq => by rw [hGb i q hq, hFu]; unfold unitOf; by_cases h : i = q <;> simp [h, hq])
    have hF2 := Fr.putRow (Pr := [_, _, _, _]) (Z := sdL su) (R := Rz) (i := i) (x := ⟨ba, (x.l ++ xu.l.take r) ++ List.replicate (c2 - (c + r)) ⟨false, ⟨none, 0, 0, []⟩⟩⟩) hF (by rw [hW.rl]; exact hir)
    exact G.again ⟨i + 1, _, _⟩ (by repeat (first | exact Sub.nil _ | refine Sub.cons rfl ?_ | refine Sub.cons' rfl (int_congr (by omega)) ?_)) ⟨hir, hW.step (b := ba) (l := (x.l ++ xu.l.take r) ++ List.replicate (c2 - (c + r)) ⟨false, ⟨none, 0, 0, []⟩⟩) hir (by rw [List.length_append, List.length_append, hul, hxl, List.length_replicate]; omega) hc2, (Fr.addWd hF2 hk).weak (.refl _) (allH (by repeat (first | exact memH | apply memT)) (allH (by repeat (first | exact memH | apply memT)) (allH (by repeat (first | exact memH | apply memT)) allN)))⟩ (by dsimp only; omega)
  · obtain rfl : i = r := by omega
    obtain ⟨rfl, hwl⟩ := hW.fin
    have hS0 : Shp i ⟨0, 0, g, c + i, false, Rz, G0⟩ := ⟨hW.rl, hwl, by show c + i ≤ 128; omega⟩
    have hk0 : SdK i K0 ⟨0, 0, g, c + i, false, Rz, G0⟩ w5.heap := by
      intro p hp q hq
      have h1 := Fr.wd hF (n := i) (i := i) (c := c) (c' := c + i) (K := K0) (R := Rz) (G := G0) (by repeat (first | exact memH | apply memT)) p hp
      rw [if_pos hp] at h1
      exact h1 q hq
    replace hF := Fr.addSd hF (n := i) (K := K) (s := ⟨0, 0, g, c + i, false, Rz, G0⟩) (fun p hp => (hk0 p hp).mono' h0)
    replace hF := hF.weak (L := [⟨b5, 24, [.int .i64 (i : Int), .int .i64 (i : Int), .slice uA (i * i) uk]⟩, ⟨b2, 27, [.int .i64 0, .int .i64 0, .slice none 0 0, .int .i64 0, .int .i64 0, .slice none 0 0, .int .i64 0, .int .i64 0, .slice none 0 0]⟩, ⟨b1, 24, [.int .i64 (i : Int), .int .i64 (c : Int), .slice A1 (i * c) k1]⟩] ++ sdL ⟨0, 0, g, c + i, false, Rz, G0⟩) (D := [dpSd i K ⟨0, 0, g, c + i, false, Rz, G0⟩, dpLM ⟨i, i, uA, i * i, uk, ul⟩ i i (fun i j => if i = j then 1 else 0) 1]) (.cons_cons _ (.cons_cons _ (.cons_cons _ (.cons_cons _ (List.sublist_append_left _ _))))) (allH (by repeat (first | exact memH | apply memT)) (allH (by repeat (first | exact memH | apply memT)) allN))
    clear hk0
    repeat' (first | (refine TL.isOp ?_; first | (refine TL.isCall ?_; refine TL.call rfl rfl ?_; first | (refine (hlines_ok _ ⟨i, i, uA, i * i, uk, ul⟩ i i 1 (Fr.lm hF (by repeat (first | exact memH | apply memT))).gm (by omega)).mono ?_; rintro _ w6 ⟨gw, Rw, rfl, hRw, hF'⟩; replace hF := Fr.pm (Fr.join hF hF' ln_fp) List.perm_append_comm; clear hF'; refine Back.mk ?_) | (refine (lnew_ok _ g i (c + i)).mono ?_; rintro _ w7 ⟨lb, sb, v, rfl, hF'⟩; replace hF := Fr.join hF hF' (fun d hd => (by cases hd)); clear hF'; refine Back.mk ?_) | (refine (against_ok _ gw i i).mono ?_; rintro _ w8 ⟨v', v2, rfl, hF'⟩; replace hF := Fr.join hF hF' (fun d hd => (by cases hd)); clear hF'; refine Back.mk ?_)) | (refine TL.isBin ?_; refine TL.cmpG rfl rfl rfl rfl (fun hc => ?_) (fun hc => ?_) <;> (try (first | (exfalso; omega) | exact absurd rfl hc))) | (apply TL.ev; (case hd => rfl); (case h => (first | exact ev_simple rfl | (apply Ev.isLoad; first | exact ev_loadAFr hF rfl (by refine ⟨?_, ?_⟩; (focus (repeat (first | exact InV.head | apply InV.tail))); rfl))))) | (refine TL.storeFr hF rfl rfl rfl rfl (by refine ⟨?_, ?_⟩; (focus (repeat (first | apply SetV.head | apply SetV.tail))); rfl) rfl ?_; clear hF; intro ws hF) | (refine TL.buildX1 (f := sdF) (u := ⟨v', v2, gw, i, true⟩) rfl rfl rfl rfl rfl rfl rfl ?_; intro wn bn ebn hVn hSn hEn hzn; replace hF := hF.exts hEn; clear hVn hEn hzn ebn) | (refine TL.appendAtFr (f := sdF) (l := [⟨v, v, g, c + i, false⟩]) (zs := []) hF rfl rfl rfl rfl hSn (fun _ => rfl) (fun _ => rfl) rfl rfl rfl rfl (by omega) rfl (by omega) (by repeat (first | apply SetV.head | apply SetV.tail)) (fun hle => absurd hle (by omega)) (fun hgr wm bs c2 zs' hc2 hzl hzn' hFn => ?_); clear hF hSn; have hF := hFn; clear hFn)) | (refine TF.is ?_; first | refine TF.nil ?_ | refine TF.e rfl ?_ | (refine TF.pick rfl ?_; first | (apply TFo.ev; (case hd => rfl); (case h => (intro wh hF; first | exact ev_simple rfl | (apply Ev.isLoad; first | exact ev_loadFr hF rfl (by refine ⟨?_, ?_⟩; (focus (repeat (first | exact InV.head | apply InV.tail))); rfl)) | exact ev_fieldAddr rfl | exact ev_nilCheck rfl))))) | (refine T.is ?_; first | refine T.seqM 14 rfl ?_ | refine T.region ?_ | refine T.cond_f rfl ?_ | refine T.exit ?_ | (refine T.regionFr hF 13 11 (.s 0 (.s 1 (.s 2 (.s 3 (.s 4 (.s 5 (.e 6 (.e 7 (.e 8 (.s 9 (.s 10 (.e 11 .nil)))))))))))) mixed (by kernel_rfl) ?_; clear hF; intro wr hF)) | (refine G.is ?_; first | refine G.next ?_ | refine G.blockE ?_ | refine G.thenE ?_ | refine G.only ?_ | refine G.treeEnd rfl ?_ | refine G.tree rfl (by first | exact hF | exact hF.weak (List.sublist_append_right _ _) (by repeat (first | exact allR | apply allT)) | exact hF.weak (by repeat (first | exact List.Sublist.refl _ | apply List.Sublist.cons)) (by repeat (first | exact allR | apply allT)) | exact hF.weak (by repeat (first | exact List.Sublist.refl _ | apply List.Sublist.cons)) (by repeat (first | exact allN | refine allH (by repeat (first | exact memH | apply memT)) ?_))) ?_) | refine TL.nil ?_)
    rw [lns_sdL (v := v') (v2 := v2) (b := true) (F := unitOf i) hRw] at hF
    replace hF := Fr.addSds hF (n := i) (K := K) (Q := [⟨v, v, g, c + i, false, Rz, G0⟩, ⟨v', v2, gw, i, true, Rw.map toQ, unitOf i⟩]) (fun s hs => by
      rcases List.mem_cons.1 hs with rfl | hs
      · exact Fr.sd hF (n := i) (K := K) (s := ⟨0, 0, g, c + i, false, Rz, G0⟩) (by repeat (first | exact memH | apply memT))
      · rw [List.mem_singleton.1 hs]
        exact fun p hp => (lns_sdk hRw (Fr.ln hF (n := i) (c := i) (R := Rw) (F := ent ⟨i, i, uA, i * i, uk, ul⟩ i) (K := 1) (by repeat (first | exact memH | apply memT))) huv p hp).mono' (by omega))
    have hLe : [⟨b5, 24, [.int .i64 (i : Int), .int .i64 (i : Int), .slice uA (i * i) uk]⟩, ⟨b2, 27, [.int .i64 0, .int .i64 0, .slice none 0 0, .int .i64 0, .int .i64 0, .slice none 0 0, .int .i64 0, .int .i64 0, .slice none 0 0]⟩, ⟨b1, 24, [.int .i64 (i : Int), .int .i64 (c : Int), .slice A1 (i * c) k1]⟩] ++ sdsL [⟨v, v, g, c + i, false, Rz, G0⟩, ⟨v', v2, gw, i, true, Rw.map toQ, unitOf i⟩] = ([⟨b5, 24, [.int .i64 (i : Int), .int .i64 (i : Int), .slice uA (i * i) uk]⟩, ⟨b2, 27, [.int .i64 0, .int .i64 0, .slice none 0 0, .int .i64 0, .int .i64 0, .slice none 0 0, .int .i64 0, .int .i64 0, .slice none 0 0]⟩, ⟨b1, 24, [.int .i64 (i : Int), .int .i64 (c : Int), .slice A1 (i * c) k1]⟩] ++ sdL ⟨0, 0, g, c + i, false, Rz, G0⟩) ++ sdL ⟨v', v2, gw, i, true, Rw.map toQ, unitOf i⟩ := by
      show _ ++ (sdL _ ++ (sdL _ ++ [])) = _
      rw [List.append_nil, List.append_assoc]; rfl
    obtain ⟨Lb, hLb⟩ : ∃ Lb : List VB, Lb = [⟨bs, 60, List.flatMap sdF ([⟨v, v, g, c + i, false⟩] ++ [⟨v', v2, gw, i, true⟩]) ++ zs'⟩, ⟨v', 48, capV gw i⟩, ⟨v2, 48, capV gw i⟩, ⟨v, 48, capV g i⟩, ⟨lb, 54, [.slice (some ⟨g, 0, none⟩) i i, .slice (some ⟨bs, 0, none⟩) (1 + 1) c2]⟩] := ⟨_, rfl⟩
    replace hF := hF.weak (L := Lb ++ ([⟨b5, 24, [.int .i64 (i : Int), .int .i64 (i : Int), .slice uA (i * i) uk]⟩, ⟨b2, 27, [.int .i64 0, .int .i64 0, .slice none 0 0, .int .i64 0, .int .i64 0, .slice none 0 0, .int .i64 0, .int .i64 0, .slice none 0 0]⟩, ⟨b1, 24, [.int .i64 (i : Int), .int .i64 (c : Int), .slice A1 (i * c) k1]⟩] ++ sdsL [⟨v, v, g, c + i, false, Rz, G0⟩, ⟨v', v2, gw, i, true, Rw.map toQ, unitOf i⟩])) (by rw [hLe, hLb]; exact .cons_cons _ (.cons_cons _ (.cons_cons _ (.cons _ (.cons_cons _ (.cons_cons _ (.refl _))))))) (D := [dpSds i K [⟨v, v, g, c + i, false, Rz, G0⟩, ⟨v', v2, gw, i, true, Rw.map toQ, unitOf i⟩]]) (allH (by repeat (first | exact memH | apply memT)) allN)
    have hfp : ∀ k, (k = lb ∨ k = bs ∨ ∃ s ∈ [(⟨v, v, g, c + i, false⟩ : Ss), ⟨v', v2, gw, i, true⟩], k = s.v ∨ k = s.v2) → ∃ u ∈ Lb, u.b = k := by
      rw [hLb]
      rintro k (rfl | rfl | ⟨s, hs, h⟩)
      · exact ⟨_, .tail _ (.tail _ (.tail _ (.tail _ (.head _)))), rfl⟩
      · exact ⟨_, .head _, rfl⟩
      · rcases List.mem_cons.1 hs with rfl | hs
        · rcases h with rfl | rfl
          · exact ⟨_, .tail _ (.tail _ (.tail _ (.head _))), rfl⟩
          · exact ⟨_, .tail _ (.tail _ (.tail _ (.head _))), rfl⟩
        · rw [List.mem_singleton.1 hs] at h
          rcases h with rfl | rfl
          · exact ⟨_, .tail _ (.head _), rfl⟩
          · exact ⟨_, .tail _ (.tail _ (.head _)), rfl⟩
    have hld : LdOk lb bs g i c2 [(⟨v, v, g, c + i, false⟩ : Ss), ⟨v', v2, gw, i, true⟩] ws.heap := by
      rw [hLb] at hF
      refine ⟨hF.var (.tail (.tail (.tail (.tail .head)))), ⟨zs', hF.var .head⟩, hc2, fun s hs => ?_⟩
      rcases List.mem_cons.1 hs with rfl | hs
      · exact ⟨hF.var (.tail (.tail (.tail .head))), hF.var (.tail (.tail (.tail .head)))⟩
      · rw [List.mem_singleton.1 hs]
        exact ⟨hF.var (.tail .head), hF.var (.tail (.tail .head))⟩
    replace hF := Fr.toLd hF hfp hld
    clear hfp hld hLe
    clear hLb
    have hG0a : ∀ p q, Bd (2 ^ e) (G0 p q) := by rw [← hG0]; exact wideOf_bd hA
    have hShw : ∀ s ∈ [(⟨v, v, g, c + i, false, Rz, G0⟩ : Sd), ⟨v', v2, gw, i, true, Rw.map toQ, unitOf i⟩], Shp i s := fun s hs => by
      rcases List.mem_cons.1 hs with rfl | hs
      · exact ⟨hS0.n, hS0.c, hS0.c2⟩
      · rw [List.mem_singleton.1 hs]; exact lns_shp hRw (by omega)
    repeat' (first | (refine TL.isOp ?_; first | (refine TL.isCall ?_; refine TL.call rfl rfl ?_; first | (refine (lreduce_ok _ lb bs i c2 K e ⟨v, v, g, c + i, false⟩ [⟨v', v2, gw, i, true⟩] ⟨v, v, g, c + i, false, Rz, G0⟩ [⟨v', v2, gw, i, true, Rw.map toQ, unitOf i⟩] _ (WideI i c A) ⟨rfl, hShw⟩ rfl (by simp) hr hK (WideI.inv i c A) ⟨G0, unitOf i, rfl, by rw [← hG0]; exact wide_start, fun p q hp hq => by unfold unitOf; rw [if_neg (by omega)]⟩ hG0a hGc (WideI.bd hr he) (Fr.subP [_, _, _] hF (allH (by repeat (first | exact memH | apply memT)) (allH (by repeat (first | exact memH | apply memT)) allN)))).mono ?_; rintro _ w9 ⟨t, rfl, Q', hR', hSm, hF'⟩; replace hF := Fr.retQ [_, _, _] hF hSm hF'; clear hF'; refine Back.mk ?_)) | (apply TL.ev; (case hd => rfl); (case h => (first | exact ev_simple rfl)))) | (refine T.is ?_; first | refine T.seqM 15 rfl ?_ | refine T.region ?_) | (refine G.is ?_; first | refine G.next ?_) | refine TL.nil ?_)
    obtain ⟨s2, Q2, J, rfl, ht, hS2, ⟨Gz, V, hGV, hWd, hVz⟩, hRed⟩ := hR'
    have hst := hS2.st
    obtain ⟨s3, rfl⟩ : ∃ s3, Q2 = [s3] := by
      have h9 := congrArg List.length hst
      match Q2, h9 with
      | [s3], _ => exact ⟨s3, rfl⟩
    obtain ⟨va, vb, ga, ca, ka, R2, G2⟩ := s2
    obtain ⟨vc, vd, gc, cc, kc, R3, V3⟩ := s3
    simp only [List.map_cons, List.map_nil, Sd.st, List.cons.injEq, Ss.mk.injEq, and_true] at hst
    obtain ⟨⟨e1, e2, e3, e4, e5⟩, ⟨f1, f2, f3, f4, f5⟩⟩ := hst
    replace e1 := e1.symm
    replace e2 := e2.symm
    replace e3 := e3.symm
    replace e4 := e4.symm
    replace e5 := e5.symm
    replace f1 := f1.symm
    replace f2 := f2.symm
    replace f3 := f3.symm
    replace f4 := f4.symm
    replace f5 := f5.symm
    subst e1 e2 e3 e4 e5 f1 f2 f3 f4 f5
    simp only [fsQ, List.map_cons, List.map_nil, List.cons.injEq, Prod.mk.injEq, and_true, true_and] at hGV
    obtain ⟨e1, e2⟩ := hGV
    replace e1 := e1.symm
    replace e2 := e2.symm
    subst e1 e2
    have hti : t = i := by
      rcases Nat.lt_or_ge t i with h | h
      · obtain ⟨q, _, hne⟩ := hWd.nz h
        exact absurd (hRed.zero t q (Nat.le_refl _) h) hne
      · omega
    rw [hti] at hRed
    clear hti ht
    have hSa := hS2.shp _ (List.mem_cons_self ..)
    have hSb := hS2.shp _ (List.mem_cons_of_mem _ (List.mem_cons_self ..))
    refine T.cut (α := Nat × Nat) (fun z => [(1, .pointer (some ⟨b1, 0, none⟩)), (2, .pointer (some ⟨b2, 0, none⟩)), (10, .slice (some ⟨gw, 0, none⟩) i i), (11, .pointer (some ⟨lb, 0, none⟩)), (12, .slice (some ⟨z.1, 0, none⟩) i i), (13, .slice (some ⟨z.2, 0, none⟩) i i)])
      (fun z w' => Fr w w' (⟨z.1, 22, List.replicate i (.slice none 0 0)⟩ :: ⟨z.2, 22, List.replicate i (.slice none 0 0)⟩ :: ([⟨b5, 24, [.int .i64 (i : Int), .int .i64 (i : Int), .slice uA (i * i) uk]⟩, ⟨b2, 27, [.int .i64 0, .int .i64 0, .slice none 0 0, .int .i64 0, .int .i64 0, .slice none 0 0, .int .i64 0, .int .i64 0, .slice none 0 0]⟩, ⟨b1, 24, [.int .i64 (i : Int), .int .i64 (c : Int), .slice A1 (i * c) k1]⟩] ++ sdsL [⟨v, v, g, c + i, false, R2, Gz⟩, ⟨v', v2, gw, i, true, R3, V⟩])) [dpLd lb bs g i c2 [⟨v, v, g, c + i, false⟩, ⟨v', v2, gw, i, true⟩], dpSds i K [⟨v, v, g, c + i, false, R2, Gz⟩, ⟨v', v2, gw, i, true, R3, V⟩]]) ?_ ?_
    · repeat' (first | (refine TL.isOp ?_; first | (refine Fr.make1 hF (d := 68) rfl rfl rfl rfl (Nat.le_refl _) (by omega) ?_; clear hF; intro w68 b68 hF) | (refine Fr.make1 hF (d := 71) rfl rfl rfl rfl (Nat.le_refl _) (by omega) ?_; clear hF; intro w71 b71 hF)) | (refine TF.is ?_; first | refine TF.nil ?_ | refine TF.e rfl ?_ | refine TF.alt ?_ ?_ | (refine TF.pick rfl ?_; first | (apply TFo.ev; (case hd => rfl); (case h => (intro wh hF; first | exact ev_simple rfl | (apply Ev.isLoad; first | exact ev_loadFr hF rfl (by refine ⟨?_, ?_⟩; (focus (repeat (first | exact InV.head | apply InV.tail))); rfl)) | exact ev_fieldAddr rfl))))) | (refine T.is ?_; first | (refine T.regionFr hF 15 8 (.s 0 (.s 1 (.s 3 (.s 4 (.alt (.e 2 (.s 6 (.e 5 (.s 7 .nil)))) (.e 5 (.e 2 (.s 6 (.s 7 .nil))))))))) mixed (by kernel_rfl) ?_; clear hF; intro wr hF)) | (refine G.is ?_; first | refine G.only ?_ | refine G.tree rfl (hF.weak (by repeat (first | exact List.Sublist.refl _ | apply List.Sublist.cons_cons | apply List.Sublist.cons)) (by repeat (first | exact allR | apply allT))) ?_) | refine TL.nil ?_)
      all_goals first
        | exact G.cut (b68, b71) (by repeat (first | exact Sub.nil _ | refine Sub.cons rfl ?_ | refine Sub.cons' rfl (int_congr (by omega)) ?_)) (hF.weak (.refl _) (allH (by repeat (first | exact memH | apply memT)) (allH (by repeat (first | exact memH | apply memT)) allN)))
        | exact G.cut (b68, b71) (by repeat (first | exact Sub.nil _ | refine Sub.cons rfl ?_ | refine Sub.cons' rfl (int_congr (by omega)) ?_)) ((Fr.swap hF).weak (.refl _) (allH (by repeat (first | exact memH | apply memT)) (allH (by repeat (first | exact memH | apply memT)) allN)))
    clear hF
    rintro ⟨bh, bu⟩ wA hF
    dsimp only at hF ⊢
    repeat' (first | (refine TL.isOp ?_; first | (apply TL.ev; (case hd => rfl); (case h => (first | exact ev_simple rfl | (apply Ev.isLoad; first | exact ev_loadV rfl (Fr.ld hF (by repeat (first | exact memH | apply memT))).ld rfl) | exact ev_len rfl | exact ev_fieldAddr rfl | exact ev_nilCheck rfl)))) | (refine T.is ?_; first | refine T.seq ?_ | refine T.region ?_ | refine T.block ?_) | (refine G.is ?_; first | refine G.next ?_) | refine TL.nil ?_)
    refine T.loop (α := Hus) (fun z => [(1, .pointer (some ⟨b1, 0, none⟩)), (2, .pointer (some ⟨b2, 0, none⟩)), (10, .slice (some ⟨gw, 0, none⟩) i i), (12, .slice (some ⟨bh, 0, none⟩) i i), (13, .slice (some ⟨bu, 0, none⟩) i i), (75, .slice (some ⟨g, 0, none⟩) i i), (76, .int .i64 (i : Int)), (77, .int .i64 (z.k : Int))])
      (fun z w' => z.k ≤ i ∧ HdI i z.k c i R2 z.hh z.hu ∧ Fr w w' (⟨bh, 22, z.hh⟩ :: ⟨bu, 22, z.hu⟩ :: ([⟨b5, 24, [.int .i64 (i : Int), .int .i64 (i : Int), .slice uA (i * i) uk]⟩, ⟨b2, 27, [.int .i64 0, .int .i64 0, .slice none 0 0, .int .i64 0, .int .i64 0, .slice none 0 0, .int .i64 0, .int .i64 0, .slice none 0 0]⟩, ⟨b1, 24, [.int .i64 (i : Int), .int .i64 (c : Int), .slice A1 (i * c) k1]⟩] ++ sdsL [⟨v, v, g, c + i, false, R2, Gz⟩, ⟨v', v2, gw, i, true, R3, V⟩])) [dpLd lb bs g i c2 [⟨v, v, g, c + i, false⟩, ⟨v', v2, gw, i, true⟩], dpSds i K [⟨v, v, g, c + i, false, R2, Gz⟩, ⟨v', v2, gw, i, true, R3, V⟩]])
      (fun z => i - z.k) ⟨0, List.replicate i (.slice none 0 0), List.replicate i (.slice none 0 0)⟩ (by repeat (first | exact Sub.nil _ | refine Sub.cons rfl ?_ | refine Sub.cons' rfl (int_congr (by omega)) ?_)) ⟨Nat.zero_le _, HdI.start i c i R2, hF⟩ ?_
    clear hF
    rintro ⟨k, hh, hu⟩ wB ⟨hki, hH, hF⟩
    dsimp only at hki hH hF ⊢
    rcases Nat.lt_or_ge k i with hkn | hkn
    · obtain ⟨x, hx⟩ := sd_get hSa hkn
      have hcx : c + i ≤ x.l.length := hSa.c x (List.mem_of_getElem? hx)
      have hci : c + i - c = i := by omega
      repeat' (first | (refine TL.isOp ?_; first | (refine TL.isBin ?_; refine TL.cmpG rfl rfl rfl rfl (fun hc => ?_) (fun hc => ?_) <;> (try (first | (exfalso; omega) | exact absurd rfl hc))) | (apply TL.ev; (case hd => rfl); (case h => (first | exact ev_simple rfl | (apply Ev.isBin; first | exact ev_arN rfl rfl rfl (by omega)) | exact ev_indexN rfl rfl hkn (.inr rfl) | exact (ev_rowqc (c' := c + i) rfl hF rfl hx (by repeat (first | exact InV.q0 rfl | apply InV.tail)))))) | (refine TL.storeRow hF (i := k) (vs := hh) (v := .slice (some ⟨x.b, 0, none⟩) c x.l.length) rfl rfl rfl rfl (by rw [hH.hl]; exact hkn) hH.hn (by repeat (first | apply SetV.head | apply SetV.tail)) ?_; clear hF; intro ws hF) | (refine TL.storeRow hF (i := k) (vs := hu) (v := .slice (cutM 2 (some ⟨x.b, 0, none⟩) x.l.length c) (c + i - c) (x.l.length - c)) rfl rfl rfl rfl (by rw [hH.ul]; exact hkn) hH.un (by repeat (first | apply SetV.head | apply SetV.tail)) ?_; clear hF; intro ws hF)) | (refine TF.is ?_; first | refine TF.nil ?_ | refine TF.e rfl ?_ | (refine TF.pick rfl ?_; first | (apply TFo.ev; (case hd => rfl); (case h => (intro wh hF; first | exact ev_simple rfl | (apply Ev.isLoad; first | exact ev_loadFr hF rfl (by refine ⟨?_, ?_⟩; (focus (repeat (first | exact InV.head | apply InV.tail))); rfl)) | (apply Ev.isSlice; first | exact ev_slM_h rfl rfl (by omega) | exact ev_slM_l rfl rfl (by omega) (by omega)) | exact ev_fieldAddr rfl | exact ev_indexN rfl rfl hkn (.inr rfl)))))) | (refine T.is ?_; first | refine T.seq ?_ | refine T.region ?_ | refine T.block ?_ | refine T.cond_t rfl ?_ | refine T.skip ?_ | (refine T.regionFs [bh] hF (by repeat (first | (apply Outs.drop; (focus (first | exact OutM.head | exact OutM.tail OutM.head | exact OutM.tail (OutM.tail OutM.head)))) | apply Outs.keep | exact Outs.nil)) 19 15 (.s 0 (.s 1 (.s 2 (.s 3 (.s 4 (.s 5 (.s 6 (.s 7 (.s 8 (.s 9 (.s 10 (.s 11 (.s 12 (.e 13 (.s 14 (.e 15 .nil)))))))))))))))) mixed (by kernel_rfl) ?_; clear hF; intro wr hF)) | (refine G.is ?_; first | refine G.next ?_ | refine G.blockN ?_ | refine G.only ?_ | refine G.treeEnd rfl ?_ | refine G.tree rfl (hF.weak (by repeat (first | exact List.Sublist.refl _ | apply List.Sublist.cons_cons | apply List.Sublist.cons)) (by repeat (first | exact allR | apply allT))) ?_) | refine TL.nil ?_)
      rw [hci] at hF
      exact G.again ⟨k + 1, _, _⟩ (by repeat (first | exact Sub.nil _ | refine Sub.cons rfl ?_ | refine Sub.cons' rfl (int_congr (by omega)) ?_)) ⟨hkn, hH.step hkn hx, hF⟩ (by dsimp only; omega)
    · obtain rfl : i = k := by omega
      obtain ⟨rfl, rfl⟩ := hH.fin hSa.n
      repeat' (first | (refine TL.isOp ?_; first | (refine TL.isBin ?_; refine TL.cmpG rfl rfl rfl rfl (fun hc => ?_) (fun hc => ?_) <;> (try (first | (exfalso; omega) | exact absurd rfl hc)))) | (refine T.is ?_; first | refine T.seqM 21 rfl ?_ | refine T.region ?_ | refine T.cond_f rfl ?_ | refine T.exit ?_) | (refine G.is ?_; first | refine G.next ?_ | refine G.blockE ?_ | refine G.thenE ?_) | refine TL.nil ?_)
      have hmema : ∀ {bx by' : VB} {u : VB}, u ∈ sdL ⟨v, v, g, c + i, false, R2, Gz⟩ → u ∈ bx :: by' :: ([⟨b5, 24, [.int .i64 (i : Int), .int .i64 (i : Int), .slice uA (i * i) uk]⟩, ⟨b2, 27, [.int .i64 0, .int .i64 0, .slice none 0 0, .int .i64 0, .int .i64 0, .slice none 0 0, .int .i64 0, .int .i64 0, .slice none 0 0]⟩, ⟨b1, 24, [.int .i64 (i : Int), .int .i64 (c : Int), .slice A1 (i * c) k1]⟩] ++ sdsL [⟨v, v, g, c + i, false, R2, Gz⟩, ⟨v', v2, gw, i, true, R3, V⟩]) := fun hu => .tail _ (.tail _ (List.mem_append_right _ (List.mem_append_left _ hu)))
      refine T.cut (α := Hfs) (fun z => [(1, .pointer (some ⟨b1, 0, none⟩)), (2, .pointer (some ⟨b2, 0, none⟩)), (10, .slice (some ⟨gw, 0, none⟩) i i), (16, .pointer (some ⟨z.b, 0, none⟩))])
        (fun z w' => Fr w w' (⟨z.b, 27, [.int .i64 z.h.r, .int .i64 z.h.c, .slice z.h.A z.h.n z.h.k, .int .i64 z.u.r, .int .i64 z.u.c, .slice z.u.A z.u.n z.u.k, .int .i64 0, .int .i64 0, .slice none 0 0]⟩ :: ([⟨b5, 24, [.int .i64 (i : Int), .int .i64 (i : Int), .slice uA (i * i) uk]⟩, ⟨b2, 27, [.int .i64 0, .int .i64 0, .slice none 0 0, .int .i64 0, .int .i64 0, .slice none 0 0, .int .i64 0, .int .i64 0, .slice none 0 0]⟩, ⟨b1, 24, [.int .i64 (i : Int), .int .i64 (c : Int), .slice A1 (i * c) k1]⟩] ++ sdsL [⟨v, v, g, c + i, false, R2, Gz⟩, ⟨v', v2, gw, i, true, R3, V⟩])) [dpLM z.h i c Gz K, dpLM z.u i i (fun p q => Gz p (c + q)) K, dpSds i K [⟨v, v, g, c + i, false, R2, Gz⟩, ⟨v', v2, gw, i, true, R3, V⟩]]) ?_ ?_
      · repeat' (first | (refine TL.isOp ?_; first | (refine TL.isCall ?_; refine TL.call rfl rfl ?_; first | (refine (hmatrix_ok _ bh i c K (R2.map (hvOf c)) Gz hr hc64 (by omega) (by rw [List.length_map]; exact hSa.n) (hF.var (by repeat (first | exact InV.head | apply InV.tail))) (fun p hp => hv_front (s := ⟨v, v, g, c + i, false, R2, Gz⟩) hF hSa (Fr.sds hF (n := i) (K := K) (Q := [⟨v, v, g, c + i, false, R2, Gz⟩, ⟨v', v2, gw, i, true, R3, V⟩]) (by repeat (first | exact memH | apply memT)) _ (List.mem_cons_self ..)) (fun u hu => by repeat (first | exact hmema hu | apply List.Mem.tail)) (Nat.le_add_right _ _) hp)).mono ?_; rintro _ wC ⟨mh, rfl, hLh, hEh, hMh⟩; replace hF := Fr.addLM hF hEh hLh hMh; clear hLh hEh hMh; refine Back.mk ?_) | (refine (hmatrix_ok _ bu i i K (R2.map (hvTail c i)) (fun p q => Gz p (c + q)) hr hr (by omega) (by rw [List.length_map]; exact hSa.n) (hF.var (by repeat (first | exact InV.head | apply InV.tail))) (fun p hp => hv_tail (s := ⟨v, v, g, c + i, false, R2, Gz⟩) hF hSa (Fr.sds hF (n := i) (K := K) (Q := [⟨v, v, g, c + i, false, R2, Gz⟩, ⟨v', v2, gw, i, true, R3, V⟩]) (by repeat (first | exact memH | apply memT)) _ (List.mem_cons_self ..)) (fun u hu => by repeat (first | exact hmema hu | apply List.Mem.tail)) rfl hp)).mono ?_; rintro _ wC ⟨mu, rfl, hLu2, hEu, hMu⟩; replace hF := Fr.addLM hF hEu hLu2 hMu; clear hLu2 hEu hMu; refine Back.mk ?_)) | (refine TL.storeAFr hF rfl rfl rfl rfl (by refine ⟨?_, ?_⟩; (focus (repeat (first | apply SetV.head | apply SetV.tail))); rfl) rfl ?_; clear hF; intro ws hF) | (refine TL.allocFr hF (d := 16) rfl rfl ?_; clear hF; intro w16 b16 hF)) | (refine TF.is ?_; first | refine TF.nil ?_ | refine TF.e rfl ?_ | refine TF.alt ?_ ?_ | (refine TF.pick rfl ?_; first | (apply TFo.ev; (case hd => rfl); (case h => (intro wh hF; first | exact ev_simple rfl | (apply Ev.isLoad; first | exact ev_loadFr hF rfl (by refine ⟨?_, ?_⟩; (focus (repeat (first | exact InV.head | apply InV.tail))); rfl)) | exact ev_fieldAddr rfl | exact ev_buildX rfl rfl))))) | (refine T.is ?_; first | (refine T.regionFr hF 21 10 (.s 0 (.s 1 (.s 2 (.s 4 (.s 5 (.s 6 (.alt (.e 3 (.alt (.e 7 (.s 8 (.e 9 (.e 10 .nil)))) (.e 9 (.e 7 (.s 8 (.e 10 .nil)))))) (.e 9 (.e 3 (.e 7 (.s 8 (.e 10 .nil)))))))))))) mixed (by kernel_rfl) ?_; clear hF; intro wr hF)) | (refine G.is ?_; first | refine G.only ?_ | refine G.treeEnd rfl ?_ | refine G.tree rfl (hF.weak (by repeat (first | exact List.Sublist.refl _ | apply List.Sublist.cons_cons | apply List.Sublist.cons)) (by repeat (first | exact allR | apply allT))) ?_) | refine TL.nil ?_)
        all_goals exact G.cut ⟨b16, mh, mu⟩ (by repeat (first | exact Sub.nil _ | refine Sub.cons rfl ?_ | refine Sub.cons' rfl (int_congr (by omega)) ?_)) (hF.weak (.cons_cons _ (.cons _ (.cons _ (.refl _)))) (allH (by repeat (first | exact memH | apply memT)) (allH (by repeat (first | exact memH | apply memT)) (allH (by repeat (first | exact memH | apply memT)) allN))))
      clear hF
      rintro ⟨b16, mh, mu⟩ wD hF
      dsimp only at hF ⊢
      have hmemb : ∀ {bx : VB} {u : VB}, u ∈ sdL ⟨v', v2, gw, i, true, R3, V⟩ → u ∈ bx :: ([⟨b5, 24, [.int .i64 (i : Int), .int .i64 (i : Int), .slice uA (i * i) uk]⟩, ⟨b2, 27, [.int .i64 0, .int .i64 0, .slice none 0 0, .int .i64 0, .int .i64 0, .slice none 0 0, .int .i64 0, .int .i64 0, .slice none 0 0]⟩, ⟨b1, 24, [.int .i64 (i : Int), .int .i64 (c : Int), .slice A1 (i * c) k1]⟩] ++ sdsL [⟨v, v, g, c + i, false, R2, Gz⟩, ⟨v', v2, gw, i, true, R3, V⟩]) := fun hu => .tail _ (List.mem_append_right _ (List.mem_append_right _ (List.mem_append_left _ hu)))
      have hVw : ∀ {w' : World} {D' : List DP} {bx : VB}, Fr w w' (bx :: ([⟨b5, 24, [.int .i64 (i : Int), .int .i64 (i : Int), .slice uA (i * i) uk]⟩, ⟨b2, 27, [.int .i64 0, .int .i64 0, .slice none 0 0, .int .i64 0, .int .i64 0, .slice none 0 0, .int .i64 0, .int .i64 0, .slice none 0 0]⟩, ⟨b1, 24, [.int .i64 (i : Int), .int .i64 (c : Int), .slice A1 (i * c) k1]⟩] ++ sdsL [⟨v, v, g, c + i, false, R2, Gz⟩, ⟨v', v2, gw, i, true, R3, V⟩])) D' → Vr w'.heap gw 22 ((R3.map (hvOf i)).map (hvv i)) := fun hF => by
        rw [← hv_map]
        exact (hF.vars (⟨gw, 22, R3.map (rowq i)⟩ : VB) (hmemb (List.mem_cons_self ..))).2
      repeat' (first | (refine TL.isOp ?_; first | (refine TL.isCall ?_; refine TL.call rfl rfl ?_; first | (refine (hmatrix_ok _ gw i i K (R3.map (hvOf i)) V hr hr (by omega) (by rw [List.length_map]; exact hSb.n) (hVw hF) (fun p hp => hv_front (s := ⟨v', v2, gw, i, true, R3, V⟩) hF hSb (Fr.sds hF (n := i) (K := K) (Q := [⟨v, v, g, c + i, false, R2, Gz⟩, ⟨v', v2, gw, i, true, R3, V⟩]) (by repeat (first | exact memH | apply memT)) _ (List.mem_cons_of_mem _ (List.mem_cons_self ..))) (fun u hu => hmemb hu) (Nat.le_refl _) hp)).mono ?_; rintro _ wE ⟨mw, rfl, hLw, hEw, hMw⟩; replace hF := Fr.addLM hF hEw hLw hMw; clear hLw hEw hMw; refine Back.mk ?_) | (refine (mturn_ok _ mw i i K (Fr.lm hF (x := mw) (by repeat (first | exact memH | apply memT))).gm (by omega)).mono ?_; rintro _ wF ⟨mt, rfl, hLt, hEt, hMt⟩; replace hLt := lm_congr hLt (F' := fun p q => V q p) (fun p q hp hq => lm_ent (Fr.lm hF (x := mw) (by repeat (first | exact memH | apply memT))) hq hp); replace hF := Fr.addLM hF hEt hLt hMt; clear hLt hEt hMt; refine Back.mk ?_)) | (apply TL.ev; (case hd => rfl); (case h => (first | exact ev_simple rfl | (apply Ev.isLoad; first | exact ev_loadFr hF rfl (by refine ⟨?_, ?_⟩; (focus (repeat (first | exact InV.head | apply InV.tail))); rfl) | exact ev_loadAFr hF rfl (by refine ⟨?_, ?_⟩; (focus (repeat (first | exact InV.head | apply InV.tail))); rfl)) | exact ev_fieldAddr rfl))) | (refine TL.storeAFr hF rfl rfl rfl rfl (by refine ⟨?_, ?_⟩; (focus (repeat (first | apply SetV.head | apply SetV.tail))); rfl) rfl ?_; clear hF; intro ws hF)) | (refine T.is ?_; first | refine T.seq ?_ | refine T.region ?_ | refine T.ret ?_) | (refine G.is ?_; first | refine G.next ?_) | refine TL.nil ?_)
      exact G.retC2 rfl rfl rfl (held_agg (hF.var (b := b2) (by repeat (first | exact InV.head | apply InV.tail))) rfl) ⟨mh, mu, mt, Gz, V, J, rfl, Fr.lm hF (by repeat (first | exact memH | apply memT)), Fr.lm hF (by repeat (first | exact memH | apply memT)), Fr.lm hF (by repeat (first | exact memH | apply memT)), hWd, hRed, hF.ext⟩
end Go.Proofs.YthlbihbchobllaaGreat

namespace Go.Eng
open Go Go.RowKit

theorem put_mid (a b z : List Value) (h : b.length ≤ z.length) : putV (a ++ z) a.length b = a ++ b ++ z.drop b.length := by
  apply List.ext_getElem?
  intro j
  rw [putV_get]
  simp only [List.length_append, List.append_assoc]
  rcases Nat.lt_or_ge j a.length with h1 | h1
  · rw [if_neg (by omega), List.getElem?_append_left h1, List.getElem?_append_left h1]
  · rw [List.getElem?_append_right h1, List.getElem?_append_right h1]
    rcases Nat.lt_or_ge (j - a.length) b.length with h2 | h2
    · rw [if_pos (by omega), List.getElem?_append_left h2]
    · rw [if_neg (by omega), List.getElem?_append_right h2, List.getElem?_drop]
      congr 1
      omega
theorem fill_all {α : Type} {f : α → List Value} {sz : Nat} : ∀ (us : List α) (i : Nat) (pre rest : List Value), (∀ u ∈ us, (f u).length = sz) → pre.length = i * sz → rest.length = us.length * sz →
    Instr.fill (fun j => some (j * sz, sz)) (pre ++ rest).toArray ((us.zipIdx i).map fun p => (p.2, Value.agg (f p.1).toArray)) = some (pre ++ us.flatMap f).toArray
  | [], i, pre, rest, _, _, hr => by
    have : rest = [] := List.eq_nil_of_length_eq_zero (by simpa using hr)
    subst this
    simp [Instr.fill]
  | u :: us, i, pre, rest, hw, hp, hr => by
    have hu := hw u (List.mem_cons_self ..)
    rw [List.length_cons, Nat.add_mul, Nat.one_mul] at hr
    have p1 : Array.foldl (fun (cs : Array Value) (p : Value × Nat) => cs.setIfInBounds (i * sz + p.2) p.1) (pre ++ rest).toArray (f u).toArray.zipIdx = (pre ++ f u ++ rest.drop sz).toArray := by
      apply Array.ext'
      have := foldl_put (f u) 0 (i * sz) (pre ++ rest).toArray
      rw [← Array.foldl_toList, Array.toList_zipIdx]
      simp only [Nat.add_zero] at this
      rw [this, ← hp]
      simp only [List.toList_toArray]
      rw [put_mid _ _ _ (by omega), hu]
    have e3 : (decide ((Value.agg (f u).toArray).cells.size ≠ sz) || decide (i * sz + (Value.agg (f u).toArray).cells.size > (pre ++ rest).toArray.size)) = false := by
      simp [Value.cells, hu]; omega
    rw [List.zipIdx_cons, List.map_cons]
    unfold Instr.fill
    simp only [e3]
    rw [show (Value.agg (f u).toArray).cells = (f u).toArray from rfl, p1]
    have ih := fill_all us (i + 1) (pre ++ f u) (rest.drop sz) (fun v hv => hw v (List.mem_cons_of_mem _ hv)) (by rw [List.length_append, hp, hu, Nat.add_mul, Nat.one_mul]) (by rw [List.length_drop]; omega)
    simp only [List.append_assoc, List.flatMap_cons] at ih ⊢
    simpa using ih
theorem rep_zeros {z : List Value} {sz : Nat} (hz : z.length = sz) (hpos : 0 < sz) (n : Nat) : ((Array.range (n * sz)).map (fun q => z.toArray[q % z.toArray.size]!)) = ((List.replicate n z).flatMap id).toArray := by
  have hf := made_flat (f := fun _ : Unit => z) (u := ()) (c := n) hpos rfl hz
  unfold madeCells at hf
  apply Array.ext'
  rw [hf]
  simp only [List.flatMap, List.map_replicate, id]
section
variable {P : Program} {N : Fm} {Q : Exit → Act → World → Prop} {σ : Store} {S : Nat → Prop} {w0 w : World} {L : List VB} {D : List DP} {ops : Array Oper} {d : Nat} {t : TypeId} {pos : String} {af : Array Edge} {rest : List Oper}
/-- a literal of structs -/
theorem TL.buildXs (hF : Fr w0 w L D S) {α : Type} {f : α → List Value} (us : List α) (xs : List Operand) {ty e : TypeId} [hT : USlice P ty e] {z : List Value} {sz b1 : Nat} [hS : USize P e (.agg z.toArray) sz b1] {n : Nat} {parts : Array (Nat × Operand)} (hp : parts = (xs.zipIdx.map fun p => (p.2, p.1)).toArray) (hn : us.length = n) (hx : looks σ xs = some (us.map fun u => Value.agg (f u).toArray)) (hd : Nat.blt d N.n = true)
    (hw : ∀ u ∈ us, (f u).length = sz) (hzl : Nat.beq z.length sz = true) (h0 : Nat.blt 0 sz = true) (hn0 : 0 < n) (hm : n * sz ≤ 1000000)
    (K : ∀ w' b, Fr w0 w' L D S → Ext w w' → w.heap.size ≤ b → Sm sz f w'.heap w'.heap.size (some ⟨b, 0, none⟩) n n us → TL P N .seq ops Q rest ((d, .slice (some ⟨b, 0, none⟩) n n) :: σ) w') :
    TL P N .seq ops Q (⟨some d, .buildSlice ty n parts, t, pos, af, none⟩ :: rest) σ w := by
  subst hp hn
  obtain ⟨i, hi, hz0, hsz, hby⟩ := hS.info
  have hzlen := Nat.eq_of_beq_eq_true hzl
  have hpos : 0 < sz := by simpa [Nat.blt_eq] using h0
  have hfl : ((List.replicate us.length z).flatMap id).length = us.length * sz := by rw [flatMap_len (k := sz) (fun x hx => by rw [(List.mem_replicate.1 hx).2]; exact hzlen)]; simp
  have hn1 : 0 < us.length * sz := Nat.mul_pos hn0 hpos
  have hfill : Instr.fill (fun j => some (j * i.size, i.size)) ((Array.range (us.length * i.size)).map (fun q => z.toArray[q % z.toArray.size]!)) (us.zipIdx.map fun p => (p.2, Value.agg (f p.1).toArray)) = some (us.flatMap f).toArray := by
    rw [hsz, rep_zeros hzlen hpos]
    have := fill_all us 0 [] ((List.replicate us.length z).flatMap id) hw (by simp) hfl
    simpa using this
  have hrun : (Instr.buildSlice ty us.length (us.zipIdx.map fun p => (p.2, Value.agg (f p.1).toArray)).toArray).run P w = .ok (.slice (some ⟨w.heap.size, 0, none⟩) us.length us.length) (w.alloc (.cells (us.flatMap f).toArray e)) := by
    refine run_buildSlice w ty e us.length _ (us.flatMap f).toArray i (.agg z.toArray) hT.out hi hz0 (by rw [hsz]; omega) (by rw [hsz]; omega) ?_
    simp only [Value.cells]
    exact hfill
  have hE := ext_alloc w (.cells (us.flatMap f).toArray e)
  have hV : Vr (w.alloc (.cells (us.flatMap f).toArray e)).heap w.heap.size e (us.flatMap f ++ []) := by unfold Vr; rw [heap_alloc]; simp
  refine TL.op (w' := w.alloc (.cells (us.flatMap f).toArray e)) (fun ρ hρ => ?_) hd (K _ _ (hF.exts hE) hE (Nat.le_refl _) (vr_sm hpos hw hV rfl (Nat.le_refl _) hV.lt))
  have h1 := hρ.list _ _ hx
  have h2 : ((xs.zipIdx.map fun p => (p.2, p.1)).toArray.map fun (p : Nat × Operand) => (p.1, ρ p.2)) = (us.zipIdx.map fun p => (p.2, Value.agg (f p.1).toArray)).toArray := by
    rw [List.map_toArray, List.map_map]
    congr 1
    have e1 : ∀ (ys : List Operand) (k : Nat), (ys.zipIdx k).map ((fun (p : Nat × Operand) => (p.1, ρ p.2)) ∘ fun p => (p.2, p.1)) = ((ys.map ρ).zipIdx k).map fun p => (p.2, p.1) := by
      intro ys
      induction ys with
      | nil => intro k; rfl
      | cons y ys ih => intro k; simp [List.zipIdx_cons]; exact ih (k + 1)
    have e2 : ∀ (vs : List α) (k : Nat), ((vs.map fun u => Value.agg (f u).toArray).zipIdx k).map (fun p => (p.2, p.1)) = (vs.zipIdx k).map fun p => (p.2, Value.agg (f p.1).toArray) := by
      intro vs
      induction vs with
      | nil => intro k; rfl
      | cons y ys ih => intro k; simp [List.zipIdx_cons]; exact ih (k + 1)
    rw [e1, h1, e2]
  simp only [execOp]
  rw [h2]
  simp [hrun]
end

end Go.Eng

namespace Go.Eng
open Go Go.RowKit

section
variable {P : Program} {N : Fm} {Q : Exit → Act → World → Prop} {σ : Store} {w : World} {ops : Array Oper} {d : Nat} {t : TypeId} {pos : String} {af : Array Edge} {rest : List Oper}
theorem TL.appendCp {α : Type} {f : α → Value} (h1 : ∀ u, (f u).cells = #[f u]) {x y : Operand} {ty e : TypeId} [hT : USlice P ty e] {z : Value} {b1 : Nat} [hS : USize P e z 1 b1] {b m c' B : Nat} {A' : Option Addr} {l' : List α}
    (hx : look σ x = some (.slice (some ⟨b, 0, none⟩) 0 0)) (hy : look σ y = some (.slice A' m c')) (hd : Nat.blt d N.n = true) (hs : Sl f w.heap B A' m c' l') (hroom : m * b1 ≤ 140737488355328 ∧ m ≤ 4611686018427387904)
    (K : ∀ w' A2 c2, Ext w w' → Sl f w'.heap w'.heap.size A2 m c2 l' → (m = 0 ∨ ∃ g, A2 = some ⟨g, 0, none⟩ ∧ w.heap.size ≤ g) → TL P N .seq ops Q rest ((d, .slice A2 m c2) :: σ) w') :
    TL P N .seq ops Q (⟨some d, .call { callee := .builtin .append, args := #[x, y], argTypes := #[ty, ty] }, t, pos, af, none⟩ :: rest) σ w := by
  obtain ⟨i, hi, hz0, hsz, hby⟩ := hS.info
  have hl' := hs.len
  rcases Nat.eq_zero_or_pos m with h0 | h0
  · subst h0
    exact TL.appendZero hx hy hd (Nat.le_refl _) (K w _ 0 (Ext.refl _) ⟨hl', Nat.le_refl _, .inl rfl⟩ (.inl rfl))
  · rcases hs.mem with h | ⟨g, o, rfl, _, hm⟩
    · omega
    have hr := run_append_grow (P := P) (w := w) ty t e i z hT.out hi hz0 ⟨b, 0, none⟩ 0 0 [] (by simp) (fun j v hj => by simp at hj) ⟨g, o, none⟩ m c' (l'.map f) (by rw [List.length_map, hl', hsz, Nat.mul_one])
      (fun j v hj => by
        rw [List.getElem?_map] at hj
        cases hq : l'[j]? with
        | none => rw [hq] at hj; cases hj
        | some u =>
          rw [hq] at hj
          cases hj
          rw [add_mk, cell_of_hcell]
          exact hm j u hq) (by omega) (by omega) (by rw [Nat.zero_add, nextslicecap_zero h0, hby]; omega)
    simp only [Nat.zero_add] at hr
    have hE : Ext w (w.drew.alloc (.cells (#[] ++ (l'.map f).toArray ++ Builtin.zeroCells z.cells (grownCap w m 0 e - m)) e)) := Ext.trans (ext_drewN w 1) (ext_alloc _ _)
    refine TL.op (fun ρ hρ => ?_) hd (K _ (some ⟨w.heap.size, 0, none⟩) (grownCap w m 0 e) hE ⟨hl', grownCap_ge w m 0 e, .inr ⟨w.heap.size, 0, rfl, ?_, fun j u hu => ?_⟩⟩ (.inr ⟨_, rfl, Nat.le_refl _⟩))
    · simp [execOp, resolve, invoke, builtin, hρ x _ hx, hρ y _ hy, hr]
    · rw [size_alloc]; exact Nat.lt_succ_self _
    · unfold hcell
      have := heap_alloc w.drew (.cells (#[] ++ (l'.map f).toArray ++ Builtin.zeroCells z.cells (grownCap w m 0 e - m)) e)
      rw [show w.drew.heap.size = w.heap.size from rfl] at this
      rw [this]
      simp only [Array.empty_append, Nat.zero_add]
      have hj := (List.getElem?_eq_some_iff.1 hu).1
      rw [Array.getElem?_append_left (by simpa using hj)]
      simp [hu]
end
section
variable {P : Program} {σ : Store} {H : Array Obj} {d : Option Tmp} {t : TypeId} {pos : String} {af : Array Edge} {gd : Option (Nat × Bool)}
end
end Go.Eng
