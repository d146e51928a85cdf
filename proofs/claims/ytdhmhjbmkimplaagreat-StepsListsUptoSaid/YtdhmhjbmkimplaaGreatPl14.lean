/- Layer 11: Rows, Cols, Matrix: one outcome, of the program and of the document. Layer 11: Inverse, of the program and of the document; LikeSteps. Layer 11: the document's clean and Inverse; LikeSteps. -/
import Derived.Test.YtdhmhjbmkimplaaGreatPl13
set_option linter.unusedVariables false
set_option linter.unusedSimpArgs false
namespace Go.Proofs.YtdhmhjbmkimplaaGreat
open Go Go.Eng Go.Proofs Go.NatM Go.RowKit

/-- what a call that answers a matrix and an error says -/
structure MO where
  err : Int
  r : Nat
  c : Nat
  F : Nat → Nat → Int
def RetO (w : World) (o : MO) (K : Nat) (e : Ending) (w' : World) : Prop := ∃ x : MV, e = .returned (.tuple #[.agg (mvc x).toArray, .int .i64 o.err]) ∧ LM w'.heap x o.r o.c o.F K ∧ Ext w w' ∧ MF w x
theorem LM.monoK {H : Array Obj} {x : MV} {r c : Nat} {F : Nat → Nat → Int} {K K' : Nat} (h : LM H x r c F K) (hK : K ≤ K') : LM H x r c F K' := ⟨h.sh, h.s, fun i j hi hj => ⟨(h.g i j hi hj).1, Nat.le_trans (h.g i j hi hj).2 hK⟩⟩
theorem RetME.o {w w' : World} {r c K K' : Nat} {F : Nat → Nat → Int} {e : Ending} (h : RetME w r c F K e w') (hK : K ≤ K') : RetO w ⟨0, r, c, F⟩ K' e w' := by
  obtain ⟨x, h1, h2, h3, h4⟩ := h
  exact ⟨x, h1, h2.monoK hK, h3, h4⟩
theorem RetMF.o {w w' : World} {err : Int} {e : Ending} (F : Nat → Nat → Int) (K : Nat) (h : RetMF w err e w') : RetO w ⟨err, 0, 0, F⟩ K e w' := ⟨⟨0, 0, none, 0, 0, []⟩, h.1, lm_zero _ _ _, h.2, .inl rfl⟩
structure MO.Eqv (s t : MO) : Prop where
  err : s.err = t.err
  r : s.r = t.r
  c : s.c = t.c
  F : ∀ i j, i < s.r → j < s.c → s.F i j = t.F i j
theorem RetO.congr {w w' : World} {s t : MO} {K : Nat} {e : Ending} (h : RetO w s K e w') (he : MO.Eqv s t) : RetO w t K e w' := by
  obtain ⟨x, h1, h2, h3, h4⟩ := h
  obtain ⟨serr, sr, sc, sF⟩ := s
  obtain ⟨terr, tr, tc, tF⟩ := t
  obtain ⟨e1, e2, e3, e4⟩ := he
  dsimp only at e1 e2 e3 e4
  subst e1 e2 e3
  exact ⟨x, h1, h2.congrF e4, h3, h4⟩
def nrows (x : MV) : Nat := x.r.toNat
def ncols (x : MV) : Nat := x.c.toNat
theorem Sound.at' {x : MV} {r c : Nat} (h : Sound x r c) : nrows x = r ∧ ncols x = c := by
  unfold nrows ncols
  rw [h.er, h.ec]
  exact ⟨Int.toNat_natCast r, Int.toNat_natCast c⟩
open Classical in
/-- Rows -/
noncomputable def rowsO (x : MV) (L : List SP) : MO := if Sound x (nrows x) (ncols x) then (if ∀ s ∈ L, fits (nrows x) s then ⟨0, nrows x, ncols x, stepsF L (ent x (ncols x))⟩ else ⟨3, 0, 0, fun _ _ => 0⟩) else ⟨1, 0, 0, fun _ _ => 0⟩
open Classical in
/-- Cols -/
noncomputable def colsO (x : MV) (L : List SP) : MO := if Sound x (nrows x) (ncols x) then (if ∀ s ∈ L, fits (ncols x) s then ⟨0, nrows x, ncols x, fun i j => stepsF L (fun p q => ent x (ncols x) q p) j i⟩ else ⟨3, 0, 0, fun _ _ => 0⟩) else ⟨1, 0, 0, fun _ _ => 0⟩
open Classical in
/-- Matrix -/
noncomputable def matO (n : Int) (L : List SP) : MO := if FitAll n L then ⟨0, n.toNat, n.toNat, stepsF L unitF⟩ else ⟨3, 0, 0, fun _ _ => 0⟩
theorem no_sound {x : MV} (h : ¬ Sound x (nrows x) (ncols x)) : ∀ r c, ¬ Sound x r c := fun r c hs => h (by have := hs.at'; rw [this.1, this.2]; exact hs)
theorem no_sound' {x : MV} (h : ¬ Sound x (nrows x) (ncols x)) : ¬ ∃ r c, Sound x r c := fun ⟨r, c, hs⟩ => no_sound h r c hs
theorem srows_o (w : World) (x : MV) (K : Nat) (hx : InR x) (g : RM w.heap x K) (A : Option Addr) (m k : Nat) (L : List SP) (hs : SS w.heap A m k L) (hm : m ≤ 1048576) (hK : K + wsum L + 1 ≤ 1099511627776) :
    Cl Tryz.prog 11 #[.agg (mvc x).toArray, .slice A m k] w (RetO w (rowsO x L) (K + wsum L + 1)) := by
  by_cases h : Sound x (nrows x) (ncols x)
  · by_cases hf : ∀ s ∈ L, fits (nrows x) s
    · refine (srows_ok w x _ _ K (g.gm h) A m k L hs.s hs.g hm (by omega) hf).mono fun e w' h' => ?_
      unfold rowsO; rw [if_pos h, if_pos hf]; exact h'.o (by omega)
    · refine (srows_unfit w x _ _ h A m k 0 L hs.s hs.g (by omega) hm hf).mono fun e w' h' => ?_
      unfold rowsO; rw [if_pos h, if_neg hf]; exact h'.o _ _
  · refine (srows_bad w x hx (no_sound' h) A m k).mono fun e w' h' => ?_
    unfold rowsO; rw [if_neg h]; exact h'.o _ _
theorem scols_o (w : World) (x : MV) (K : Nat) (hx : InR x) (g : RM w.heap x K) (A : Option Addr) (m k : Nat) (L : List SP) (hs : SS w.heap A m k L) (hm : m ≤ 1048576) (hK : K + wsum L + 1 ≤ 1099511627776) :
    Cl Tryz.prog 14 #[.agg (mvc x).toArray, .slice A m k] w (RetO w (colsO x L) (K + wsum L + 1)) := by
  by_cases h : Sound x (nrows x) (ncols x)
  · by_cases hf : ∀ s ∈ L, fits (ncols x) s
    · refine (scols_ok w x _ _ K (g.gm h) A m k L hs.s hs.g hm (by omega) hf).mono fun e w' h' => ?_
      unfold colsO; rw [if_pos h, if_pos hf]; exact h'.o (by omega)
    · refine (scols_unfit w x _ _ K (g.gm h) A m k L hs.s hs.g hm (by omega) hf).mono fun e w' h' => ?_
      unfold colsO; rw [if_pos h, if_neg hf]; exact h'.o _ _
  · refine (scols_bad w x hx (no_sound' h) A m k).mono fun e w' h' => ?_
    unfold colsO; rw [if_neg h]; exact h'.o _ _
theorem unit_out (w : World) (z : Int) (h : ¬ isSideI z) : Cl Tryz.prog 51 #[.int .i64 z] w (RetMF w 3) := by
  have hs := fun (w : World) => (side_ok w.heap z false (decide_eq_false h)).cl
  refine enter Tryz.func51 rfl rfl rfl ?_
  have hF := Fr.refl w
  repeat' (first | (refine TL.isOp ?_; first | (refine TL.isCall ?_; refine TL.call rfl rfl ?_; first | (refine (hs _).mono ?_; rintro _ wy ⟨rfl, hE⟩; replace hF := hF.exts hE.ext; clear hE; refine Back.mk ?_)) | (apply TL.ev; (case hd => rfl); (case h => (first | exact ev_simple rfl | exact ev_buildX rfl rfl))) | (refine TL.storeAFr hF rfl rfl rfl rfl (by refine ⟨?_, ?_⟩; (focus (repeat (first | apply SetV.head | apply SetV.tail))); rfl) rfl ?_; clear hF; intro ws hF) | (refine TL.allocFr hF (d := 2) rfl rfl ?_; clear hF; intro w2 b2 hF)) | (refine T.is ?_; first | refine T.seq ?_ | refine T.region ?_ | refine T.cond_t rfl ?_ | refine T.ret ?_) | (refine G.is ?_; first | refine G.next ?_ | refine G.thenR ?_) | refine TL.nil ?_)
  exact G.retC2 rfl rfl rfl (held_agg (hF.var (by repeat (first | exact InV.head | apply InV.tail))) rfl) ⟨rfl, hF.ext⟩
theorem smatrix_no (w : World) (n : Int) (h : ¬ isSideI n) (A : Option Addr) (m k : Nat) : Cl Tryz.prog 16 #[.int .i64 n, .slice A m k] w (RetMF w 3) := by
  refine enter Tryz.func16 rfl rfl rfl ?_
  have hF := Fr.refl w
  repeat' (first | (refine TL.isOp ?_; first | (refine TL.isCall ?_; refine TL.call rfl rfl ?_; first | (refine (unit_out _ n h).mono ?_; rintro _ wu ⟨rfl, hE⟩; replace hF := hF.exts hE; clear hE; refine Back.mk ?_)) | (refine TL.isBin ?_; refine TL.cmpG rfl rfl rfl rfl (fun hc => ?_) (fun hc => ?_) <;> (try (first | (exfalso; omega) | exact absurd rfl hc))) | (apply TL.ev; (case hd => rfl); (case h => (first | exact ev_simple rfl | exact ev_buildX rfl rfl))) | (refine TL.storeAFr hF rfl rfl rfl rfl (by refine ⟨?_, ?_⟩; (focus (repeat (first | apply SetV.head | apply SetV.tail))); rfl) rfl ?_; clear hF; intro ws hF) | (refine TL.allocFr hF (d := 4) rfl rfl ?_; clear hF; intro w4 b4 hF) | (refine TL.allocFr hF (d := 6) rfl rfl ?_; clear hF; intro w6 b6 hF)) | (refine T.is ?_; first | refine T.seq ?_ | refine T.region ?_ | refine T.cond_t rfl ?_ | refine T.ret ?_) | (refine G.is ?_; first | refine G.next ?_ | refine G.thenR ?_) | refine TL.nil ?_)
  exact G.retC2 rfl rfl rfl (held_agg (hF.var (by repeat (first | exact InV.head | apply InV.tail))) rfl) ⟨rfl, hF.ext⟩
theorem smatrix_o (w : World) (n : Int) (A : Option Addr) (m k : Nat) (L : List SP) (hs : SS w.heap A m k L) (hm : m ≤ 1048576) (hK : wsum L + 1 ≤ 1099511627776) :
    Cl Tryz.prog 16 #[.int .i64 n, .slice A m k] w (RetO w (matO n L) (wsum L + 1)) := by
  by_cases h : isSideI n
  · obtain ⟨q, rfl⟩ := Int.eq_ofNat_of_zero_le h.1
    have hq : q ≤ 64 := by have := h.2; omega
    by_cases hf : ∀ s ∈ L, fits q s
    · refine (smatrix_ok w q hq A m k L hs.s hs.g hm (by omega) hf).mono fun e w' h' => ?_
      unfold matO; rw [if_pos ⟨h, hf⟩]; exact h'.o (by omega)
    · refine (smatrix_unfit w q hq A m k L hs.s hs.g hm (by omega) hf).mono fun e w' h' => ?_
      unfold matO; rw [if_neg (fun h => hf h.2)]; exact h'.o _ _
  · refine (smatrix_no w n h A m k).mono fun e w' h' => ?_
    unfold matO; rw [if_neg (fun h' => h h'.1)]; exact h'.o _ _
set_option maxRecDepth 100000 in
set_option maxHeartbeats 2000000 in
theorem rrows_ok (w : World) (x : MV) (r c K : Nat) (gx : GM w.heap x r c K) (A : Option Addr) (m k : Nat) (L : List SP) (hs : SS w.heap A m k L) (hm : m ≤ 1048576) (hK : K + wsum L ≤ 50000000) (hfit : ∀ s ∈ L, fits r s) :
    Cl Tryz.prog 13 #[.agg (mvc x).toArray, .slice A m k] w (RetME w r c (stepsF L (ent x c)) (K + wsum L)) := by
  have hlen := hs.s.len
  have hck := fun w1 (hE : Ext w w1) => rcheckS_ok w1 (r : Int) A m k L (hs.ext hE) hm
  have hln := fun w1 (hE : Ext w w1) => rleastM_ok w1 x r c K (gx.ext hE) (by omega)
  have hr := gx.sh.r64
  have hFA : FitAll (r : Int) L := ⟨⟨by omega, by omega⟩, hfit⟩
  generalize ent x c = F at *
  have he1 := gx.sh.er
  have he2 := gx.sh.ec
  clear gx
  obtain ⟨xr, xc, A1, n1, k1, l1⟩ := x
  dsimp only at he1 he2
  subst he1 he2
  refine enter Tryz.func13 rfl rfl rfl ?_
  have hF := Fr.refl w
  repeat' (first | (refine TL.isOp ?_; first | (refine TL.isCall ?_; refine TL.call rfl rfl ?_; first | (refine (hln _ hF.ext).mono ?_; rintro _ wu ⟨⟨ur, uc, uA, un, uk, ul⟩, rfl, hLu, hE, hf⟩; have hfu := hf.mono hF.ext.size; replace hF := Fr.addLM hF hE hLu hf; clear hE hf hLu; refine Back.mk ?_) | (refine (hck _ hF.ext).mono ?_; rintro _ wy ⟨z, err, rfl, hCk, hE⟩; obtain rfl := hCk.err0 hFA; replace hF := hF.exts hE; clear hE hCk; refine Back.mk ?_)) | (refine TL.isBin ?_; refine TL.cmpG rfl rfl rfl rfl (fun hc => ?_) (fun hc => ?_) <;> (try (first | (exfalso; omega) | exact absurd rfl hc))) | (apply TL.ev; (case hd => rfl); (case h => (first | exact ev_simple rfl | (apply Ev.isLoad; first | exact ev_loadFr hF rfl (by refine ⟨?_, ?_⟩; (focus (repeat (first | exact InV.head | apply InV.tail))); rfl) | exact ev_loadAFr hF rfl (by refine ⟨?_, ?_⟩; (focus (repeat (first | exact InV.head | apply InV.tail))); rfl)) | exact ev_fieldAddr rfl))) | (refine TL.storeAFr hF rfl rfl rfl rfl (by refine ⟨?_, ?_⟩; (focus (repeat (first | apply SetV.head | apply SetV.tail))); rfl) rfl ?_; clear hF; intro ws hF) | (refine TL.boxAFr hF (d := 2) (cs := [.int .i64 (r : Int), .int .i64 (c : Int), .slice A1 n1 k1]) rfl rfl ?_; clear hF; intro w2 b2 hF) | (refine TL.allocFr hF (d := 4) rfl rfl ?_; clear hF; intro w4 b4 hF) | (refine TL.allocFr hF (d := 6) rfl rfl ?_; clear hF; intro w6 b6 hF)) | (refine T.is ?_; first | refine T.seq ?_ | refine T.region ?_ | refine T.block ?_ | refine T.cond_f rfl ?_ | refine T.skip ?_) | (refine G.is ?_; first | refine G.next ?_) | refine TL.nil ?_)
  refine T.loop (α := Nat × MV) (fun x => [(1, .slice A m k), (2, .pointer (some ⟨b2, 0, none⟩)), (4, .pointer (some ⟨b4, 0, none⟩)), (6, .pointer (some ⟨b6, 0, none⟩)), (10, .int .i64 (x.1 : Int))])
    (fun x w' => x.1 ≤ m ∧ MF w x.2 ∧ Fr w w' [⟨b6, 24, mvc x.2⟩, ⟨b4, 24, [.int .i64 0, .int .i64 0, .slice none 0 0]⟩, ⟨b2, 24, [.int .i64 (r : Int), .int .i64 (c : Int), .slice A1 n1 k1]⟩] [dpLM x.2 r c (stepsF (L.take x.1) F) (K + wsum (L.take x.1))]) (fun x => m - x.1) (0, ⟨ur, uc, uA, un, uk, ul⟩) (by repeat (first | exact Sub.nil _ | refine Sub.cons rfl ?_ | refine Sub.cons' rfl (int_congr (by omega)) ?_)) ⟨Nat.zero_le _, hfu, hF⟩ ?_
  clear hF hfu
  clear ur uc uA un uk ul
  rintro ⟨i, ⟨ur, uc, uA, un, uk, ul⟩⟩ w2 ⟨hi, hfu, hF⟩
  dsimp only at hi hF
  rcases Nat.lt_or_ge i m with hin | hin
  · have hy : L[i]? = some (L.getD i default) := by simp [List.getD, show i < L.length by omega]
    have hmem := List.mem_of_getElem? hy
    generalize L.getD i default = y at *
    have e1 := wsum_succ hy
    have e2 := stepsF_succ (F := F) hy
    have e3 := wsum_le L (i + 1)
    repeat' (first | (refine TL.isOp ?_; first | (refine TL.isCall ?_; refine TL.call rfl rfl ?_; first | (refine (done_ok _ ⟨ur, uc, uA, un, uk, ul⟩ r c (K + wsum (L.take i)) y.k.m.n (stepsF (L.take i) F) y (Fr.lm hF (by repeat (first | exact memH | apply memT))) ((hs.g y hmem).ext hF.ext) (hfit y hmem) (Nat.le_refl _) (by omega) (by omega)).mono ?_; rintro _ wz ⟨⟨zr, zc, zA, zn, zk, zl⟩, rfl, hLz, hE, hf⟩; have hfz := hf.mono hF.ext.size; replace hF := Fr.addLM hF hE hLz hf; clear hE hf hLz; refine Back.mk ?_)) | (refine TL.isBin ?_; refine TL.cmpG rfl rfl rfl rfl (fun hc => ?_) (fun hc => ?_) <;> (try (first | (exfalso; omega) | exact absurd rfl hc))) | (apply TL.ev; (case hd => rfl); (case h => (first | exact ev_simple rfl | (apply Ev.isBin; first | exact ev_arN rfl rfl rfl (by omega)) | exact ev_len rfl))) | (refine TL.storeAFr hF rfl rfl rfl rfl (by refine ⟨?_, ?_⟩; (focus (repeat (first | apply SetV.head | apply SetV.tail))); rfl) rfl ?_; clear hF; intro ws hF)) | (refine TF.is ?_; first | refine TF.nil ?_ | refine TF.e rfl ?_ | (refine TF.pick rfl ?_; first | (apply TFo.ev; (case hd => rfl); (case h => (intro wh hF; first | exact ev_simple rfl | (apply Ev.isLoad; first | exact ev_loadAFr hF rfl (by refine ⟨?_, ?_⟩; (focus (repeat (first | exact InV.head | apply InV.tail))); rfl) | exact ev_loadM rfl (hs.s.ext hF.ext) hy) | exact ev_indexM rfl rfl hin (hs.s.ext hF.ext).some))))) | (refine T.is ?_; first | refine T.seq ?_ | refine T.region ?_ | refine T.block ?_ | refine T.cond_t rfl ?_ | refine T.skip ?_ | (refine T.regionFr hF 10 6 (.s 0 (.s 1 (.s 2 (.s 3 (.s 4 (.e 5 (.e 6 .nil))))))) mixed (by kernel_rfl) ?_; clear hF; intro wr hF)) | (refine G.is ?_; first | refine G.next ?_ | refine G.blockN ?_ | refine G.only ?_ | refine G.treeEnd rfl ?_ | refine G.tree rfl (by first | exact hF | exact hF.weak (by repeat (first | exact List.Sublist.refl _ | apply List.Sublist.cons)) (by repeat (first | exact allR | apply allT)) | exact hF.weak (by repeat (first | exact List.Sublist.refl _ | apply List.Sublist.cons)) (by repeat (first | exact allN | refine allH (by repeat (first | exact memH | apply memT)) ?_))) ?_) | refine TL.nil ?_)
    refine G.again (i + 1, ⟨zr, zc, zA, zn, zk, zl⟩) (by repeat (first | exact Sub.nil _ | refine Sub.cons rfl ?_ | refine Sub.cons' rfl (int_congr (by omega)) ?_)) ⟨by dsimp only; omega, hfz, ?_⟩ (by dsimp only; omega)
    dsimp only
    rw [e1, e2, show K + (wsum (L.take i) + (y.k.m.n + 1)) = y.k.m.n + (K + wsum (L.take i)) + 1 by omega]
    exact hF.weak (.refl _) (allH (by repeat (first | exact memH | apply memT)) allN)
  · obtain rfl : i = m := by omega
    have e1 : L.take i = L := List.take_of_length_le (by omega)
    rw [e1] at hF
    repeat' (first | (refine TL.isOp ?_; first | (refine TL.isBin ?_; refine TL.cmpG rfl rfl rfl rfl (fun hc => ?_) (fun hc => ?_) <;> (try (first | (exfalso; omega) | exact absurd rfl hc))) | (apply TL.ev; (case hd => rfl); (case h => (first | exact ev_simple rfl | (apply Ev.isLoad; first | exact ev_loadAFr hF rfl (by refine ⟨?_, ?_⟩; (focus (repeat (first | exact InV.head | apply InV.tail))); rfl)) | exact ev_len rfl))) | (refine TL.storeAFr hF rfl rfl rfl rfl (by refine ⟨?_, ?_⟩; (focus (repeat (first | apply SetV.head | apply SetV.tail))); rfl) rfl ?_; clear hF; intro ws hF)) | (refine T.is ?_; first | refine T.seq ?_ | refine T.region ?_ | refine T.cond_f rfl ?_ | refine T.exit ?_ | refine T.ret ?_) | (refine G.is ?_; first | refine G.next ?_ | refine G.blockE ?_ | refine G.thenE ?_) | refine TL.nil ?_)
    exact G.retC2 rfl rfl rfl (held_agg (hF.var (by repeat (first | exact InV.head | apply InV.tail))) rfl) ⟨⟨ur, uc, uA, un, uk, ul⟩, rfl, Fr.lm hF (by repeat (first | exact memH | apply memT)), hF.ext, hfu⟩
theorem rrows_bad (w : World) (x : MV) (h : ∀ r c, ¬ Sound x r c) (A : Option Addr) (m k : Nat) : Cl Tryz.prog 13 #[.agg (mvc x).toArray, .slice A m k] w (RetMF w 1) := by
  have hck := fun w => rleastM_bad w x h
  clear h
  obtain ⟨xr, xc, A1, n1, k1, l1⟩ := x
  refine enter Tryz.func13 rfl rfl rfl ?_
  have hF := Fr.refl w
  repeat' (first | (refine TL.isOp ?_; first | (refine TL.isCall ?_; refine TL.call rfl rfl ?_; first | (refine (hck _).mono ?_; rintro _ wy ⟨rfl, hE⟩; replace hF := hF.exts hE; clear hE; refine Back.mk ?_)) | (refine TL.isBin ?_; refine TL.cmpG rfl rfl rfl rfl (fun hc => ?_) (fun hc => ?_) <;> (try (first | (exfalso; omega) | exact absurd rfl hc))) | (apply TL.ev; (case hd => rfl); (case h => (first | exact ev_simple rfl | (apply Ev.isLoad; first | exact ev_loadAFr hF rfl (by refine ⟨?_, ?_⟩; (focus (repeat (first | exact InV.head | apply InV.tail))); rfl)) | exact ev_buildX rfl rfl))) | (refine TL.storeAFr hF rfl rfl rfl rfl (by refine ⟨?_, ?_⟩; (focus (repeat (first | apply SetV.head | apply SetV.tail))); rfl) rfl ?_; clear hF; intro ws hF) | (refine TL.boxAFr hF (d := 2) (cs := [.int .i64 xr, .int .i64 xc, .slice A1 n1 k1]) rfl rfl ?_; clear hF; intro w2 b2 hF) | (refine TL.allocFr hF (d := 4) rfl rfl ?_; clear hF; intro w4 b4 hF) | (refine TL.allocFr hF (d := 6) rfl rfl ?_; clear hF; intro w6 b6 hF)) | (refine T.is ?_; first | refine T.seq ?_ | refine T.region ?_ | refine T.cond_t rfl ?_ | refine T.ret ?_) | (refine G.is ?_; first | refine G.next ?_ | refine G.thenR ?_) | refine TL.nil ?_)
  exact G.retC2 rfl rfl rfl (held_agg (hF.var (by repeat (first | exact InV.head | apply InV.tail))) rfl) ⟨rfl, hF.ext⟩
theorem rrows_unfit (w : World) (x : MV) (r c K : Nat) (gx : GM w.heap x r c K) (hK : K ≤ 1099511627776) (A : Option Addr) (m k : Nat) (L : List SP) (hs : SS w.heap A m k L) (hm : m ≤ 1048576) (hfit : ¬ ∀ s ∈ L, fits r s) :
    Cl Tryz.prog 13 #[.agg (mvc x).toArray, .slice A m k] w (RetMF w 3) := by
  have hck := fun w1 (hE : Ext w w1) => rcheckS_ok w1 (r : Int) A m k L (hs.ext hE) hm
  have hln := fun w1 (hE : Ext w w1) => rleastM_ok w1 x r c K (gx.ext hE) hK
  have hFA : ¬ FitAll (r : Int) L := fun h => hfit h.2
  have he1 := gx.sh.er
  have he2 := gx.sh.ec
  clear gx
  generalize ent x c = F at *
  obtain ⟨xr, xc, A1, n1, k1, l1⟩ := x
  dsimp only at he1 he2
  subst he1 he2
  refine enter Tryz.func13 rfl rfl rfl ?_
  have hF := Fr.refl w
  repeat' (first | (refine TL.isOp ?_; first | (refine TL.isCall ?_; refine TL.call rfl rfl ?_; first | (refine (hln _ hF.ext).mono ?_; rintro _ wu ⟨⟨ur, uc, uA, un, uk, ul⟩, rfl, hLu, hE, hf⟩; replace hF := Fr.addLM hF hE hLu hf; clear hE hf hLu; refine Back.mk ?_) | (refine (hck _ hF.ext).mono ?_; rintro _ wy ⟨z, err, rfl, hCk, hE⟩; obtain rfl := hCk.err3 hFA; replace hF := hF.exts hE; clear hE hCk; refine Back.mk ?_)) | (refine TL.isBin ?_; refine TL.cmpG rfl rfl rfl rfl (fun hc => ?_) (fun hc => ?_) <;> (try (first | (exfalso; omega) | exact absurd rfl hc))) | (apply TL.ev; (case hd => rfl); (case h => (first | exact ev_simple rfl | (apply Ev.isLoad; first | exact ev_loadFr hF rfl (by refine ⟨?_, ?_⟩; (focus (repeat (first | exact InV.head | apply InV.tail))); rfl) | exact ev_loadAFr hF rfl (by refine ⟨?_, ?_⟩; (focus (repeat (first | exact InV.head | apply InV.tail))); rfl)) | exact ev_fieldAddr rfl | exact ev_buildX rfl rfl))) | (refine TL.storeAFr hF rfl rfl rfl rfl (by refine ⟨?_, ?_⟩; (focus (repeat (first | apply SetV.head | apply SetV.tail))); rfl) rfl ?_; clear hF; intro ws hF) | (refine TL.boxAFr hF (d := 2) (cs := [.int .i64 (r : Int), .int .i64 (c : Int), .slice A1 n1 k1]) rfl rfl ?_; clear hF; intro w2 b2 hF) | (refine TL.allocFr hF (d := 4) rfl rfl ?_; clear hF; intro w4 b4 hF) | (refine TL.allocFr hF (d := 6) rfl rfl ?_; clear hF; intro w6 b6 hF)) | (refine T.is ?_; first | refine T.seq ?_ | refine T.region ?_ | refine T.cond_t rfl ?_ | refine T.cond_f rfl ?_ | refine T.ret ?_ | refine T.skip ?_) | (refine G.is ?_; first | refine G.next ?_ | refine G.thenR ?_) | refine TL.nil ?_)
  exact G.retC2 rfl rfl rfl (held_agg (hF.var (by repeat (first | exact InV.head | apply InV.tail))) rfl) ⟨rfl, hF.ext⟩
theorem rrows_o (w : World) (x : MV) (K : Nat) (g : RM w.heap x K) (A : Option Addr) (m k : Nat) (L : List SP) (hs : SS w.heap A m k L) (hm : m ≤ 1048576) (hK : K + wsum L ≤ 50000000) :
    Cl Tryz.prog 13 #[.agg (mvc x).toArray, .slice A m k] w (RetO w (rowsO x L) (K + wsum L + 1)) := by
  by_cases h : Sound x (nrows x) (ncols x)
  · by_cases hf : ∀ s ∈ L, fits (nrows x) s
    · refine (rrows_ok w x _ _ K (g.gm h) A m k L hs hm hK hf).mono fun e w' h' => ?_
      unfold rowsO; rw [if_pos h, if_pos hf]; exact h'.o (by omega)
    · refine (rrows_unfit w x _ _ K (g.gm h) (by omega) A m k L hs hm hf).mono fun e w' h' => ?_
      unfold rowsO; rw [if_pos h, if_neg hf]; exact h'.o _ _
  · refine (rrows_bad w x (no_sound h) A m k).mono fun e w' h' => ?_
    unfold rowsO; rw [if_neg h]; exact h'.o _ _
theorem rmatrix_o (w : World) (n : Int) (A : Option Addr) (m k : Nat) (L : List SP) (hs : SS w.heap A m k L) (hm : m ≤ 1048576) (hK : wsum L ≤ 40000000) :
    Cl Tryz.prog 17 #[.int .i64 n, .slice A m k] w (RetO w (matO n L) (wsum L + 1)) := by
  by_cases h : isSideI n
  · obtain ⟨q, rfl⟩ := Int.eq_ofNat_of_zero_le h.1
    have hq : q ≤ 64 := by have := h.2; omega
    by_cases hf : ∀ s ∈ L, fits q s
    · refine Cl.mono (R := RetME w q q (stepsF L unitF) (1 + wsum L)) ?_ fun e w' h' => (by unfold matO; rw [if_pos ⟨h, hf⟩]; exact h'.o (by omega))
      refine enter Tryz.func17 rfl rfl rfl ?_
      have hF := Fr.refl w
      repeat' (first | (refine TL.isOp ?_; first | (refine TL.isCall ?_; refine TL.call rfl rfl ?_; first | (refine (runit_ok _ q hq).mono ?_; rintro _ wu ⟨zu, rfl, hLu, hE, hf'⟩; have hcg := fun i j hi hj => hLu.ent (i := i) (j := j) hi hj; obtain ⟨Au, ku, lu, rfl⟩ := lm_mk hLu; rw [mvc_mk _ _ Au]; replace hF := Fr.addLM hF hE hLu hf'; clear hE hf' hLu; refine Back.mk ?_) | (refine (rrows_ok _ ⟨q, q, Au, q * q, ku, lu⟩ q q 1 (Fr.lm hF (by repeat (first | exact memH | apply memT))).gm A m k L (hs.ext hF.ext) hm (by omega) hf).mono ?_; rintro _ wz ⟨⟨zr, zc, zA, zn, zk, zl⟩, rfl, hLz, hE, hf'⟩; have hfz := hf'.mono hF.ext.size; replace hF := Fr.addLM hF hE hLz hf'; clear hE hf' hLz; refine Back.mk ?_)) | (refine TL.isBin ?_; refine TL.cmpG rfl rfl rfl rfl (fun hc => ?_) (fun hc => ?_) <;> (try (first | (exfalso; omega) | exact absurd rfl hc))) | (apply TL.ev; (case hd => rfl); (case h => (first | exact ev_simple rfl | (apply Ev.isLoad; first | exact ev_loadAFr hF rfl (by refine ⟨?_, ?_⟩; (focus (repeat (first | exact InV.head | apply InV.tail))); rfl))))) | (refine TL.storeAFr hF rfl rfl rfl rfl (by refine ⟨?_, ?_⟩; (focus (repeat (first | apply SetV.head | apply SetV.tail))); rfl) rfl ?_; clear hF; intro ws hF) | (refine TL.allocFr hF (d := 4) rfl rfl ?_; clear hF; intro w4 b4 hF) | (refine TL.allocFr hF (d := 6) rfl rfl ?_; clear hF; intro w6 b6 hF)) | (refine T.is ?_; first | refine T.seq ?_ | refine T.region ?_ | refine T.cond_f rfl ?_ | refine T.ret ?_ | refine T.skip ?_) | (refine G.is ?_; first | refine G.next ?_) | refine TL.nil ?_)
      refine G.retC2 rfl rfl rfl (held_agg (hF.var (by repeat (first | exact InV.head | apply InV.tail))) rfl) ⟨⟨zr, zc, zA, zn, zk, zl⟩, rfl, (Fr.lm hF (x := ⟨zr, zc, zA, zn, zk, zl⟩) (by repeat (first | exact memH | apply memT))).congrF fun i j hi hj => stepsF_congr L hf (fun p q hp hq => hcg p q hp hq) i j hi hj, hF.ext, hfz⟩
    · refine Cl.mono (R := RetMF w 3) ?_ fun e w' h' => (by unfold matO; rw [if_neg (fun h => hf h.2)]; exact h'.o _ _)
      refine enter Tryz.func17 rfl rfl rfl ?_
      have hF := Fr.refl w
      repeat' (first | (refine TL.isOp ?_; first | (refine TL.isCall ?_; refine TL.call rfl rfl ?_; first | (refine (runit_ok _ q hq).mono ?_; rintro _ wu ⟨zu, rfl, hLu, hE, hf'⟩; obtain ⟨Au, ku, lu, rfl⟩ := lm_mk hLu; rw [mvc_mk _ _ Au]; replace hF := Fr.addLM hF hE hLu hf'; clear hE hf' hLu; refine Back.mk ?_) | (refine (rrows_unfit _ ⟨q, q, Au, q * q, ku, lu⟩ q q 1 (Fr.lm hF (by repeat (first | exact memH | apply memT))).gm (by omega) A m k L (hs.ext hF.ext) hm hf).mono ?_; rintro _ wz ⟨rfl, hE⟩; replace hF := hF.exts hE; clear hE; refine Back.mk ?_)) | (refine TL.isBin ?_; refine TL.cmpG rfl rfl rfl rfl (fun hc => ?_) (fun hc => ?_) <;> (try (first | (exfalso; omega) | exact absurd rfl hc))) | (apply TL.ev; (case hd => rfl); (case h => (first | exact ev_simple rfl | (apply Ev.isLoad; first | exact ev_loadAFr hF rfl (by refine ⟨?_, ?_⟩; (focus (repeat (first | exact InV.head | apply InV.tail))); rfl))))) | (refine TL.storeAFr hF rfl rfl rfl rfl (by refine ⟨?_, ?_⟩; (focus (repeat (first | apply SetV.head | apply SetV.tail))); rfl) rfl ?_; clear hF; intro ws hF) | (refine TL.allocFr hF (d := 4) rfl rfl ?_; clear hF; intro w4 b4 hF) | (refine TL.allocFr hF (d := 6) rfl rfl ?_; clear hF; intro w6 b6 hF)) | (refine T.is ?_; first | refine T.seq ?_ | refine T.region ?_ | refine T.cond_f rfl ?_ | refine T.ret ?_ | refine T.skip ?_) | (refine G.is ?_; first | refine G.next ?_) | refine TL.nil ?_)
      exact G.retC2 rfl rfl rfl (held_agg (hF.var (by repeat (first | exact InV.head | apply InV.tail))) rfl) ⟨rfl, hF.ext⟩
  · refine Cl.mono (R := RetMF w 3) ?_ fun e w' h' => (by unfold matO; rw [if_neg (fun h' => h h'.1)]; exact h'.o _ _)
    refine enter Tryz.func17 rfl rfl rfl ?_
    have hF := Fr.refl w
    repeat' (first | (refine TL.isOp ?_; first | (refine TL.isCall ?_; refine TL.call rfl rfl ?_; first | (refine (runit_no _ n h).mono ?_; rintro _ wu ⟨rfl, hE⟩; replace hF := hF.exts hE; clear hE; refine Back.mk ?_)) | (refine TL.isBin ?_; refine TL.cmpG rfl rfl rfl rfl (fun hc => ?_) (fun hc => ?_) <;> (try (first | (exfalso; omega) | exact absurd rfl hc))) | (apply TL.ev; (case hd => rfl); (case h => (first | exact ev_simple rfl | exact ev_buildX rfl rfl))) | (refine TL.storeAFr hF rfl rfl rfl rfl (by refine ⟨?_, ?_⟩; (focus (repeat (first | apply SetV.head | apply SetV.tail))); rfl) rfl ?_; clear hF; intro ws hF) | (refine TL.allocFr hF (d := 4) rfl rfl ?_; clear hF; intro w4 b4 hF) | (refine TL.allocFr hF (d := 6) rfl rfl ?_; clear hF; intro w6 b6 hF)) | (refine T.is ?_; first | refine T.seq ?_ | refine T.region ?_ | refine T.cond_t rfl ?_ | refine T.ret ?_) | (refine G.is ?_; first | refine G.next ?_ | refine G.thenR ?_) | refine TL.nil ?_)
    exact G.retC2 rfl rfl rfl (held_agg (hF.var (by repeat (first | exact InV.head | apply InV.tail))) rfl) ⟨rfl, hF.ext⟩
set_option maxRecDepth 100000 in
set_option maxHeartbeats 2000000 in
theorem rcols_o (w : World) (x : MV) (K : Nat) (g : RM w.heap x K) (A : Option Addr) (m k : Nat) (L : List SP) (hs : SS w.heap A m k L) (hm : m ≤ 1048576) (hK : K + wsum L ≤ 50000000) :
    Cl Tryz.prog 15 #[.agg (mvc x).toArray, .slice A m k] w (RetO w (colsO x L) (K + wsum L + 1)) := by
  by_cases h : Sound x (nrows x) (ncols x)
  · generalize hr : nrows x = r at h
    generalize hc : ncols x = c at h
    have ht := fun w1 (hE : Ext w w1) => rturn_ok w1 x r c K ((g.gm h).ext hE) (by omega)
    have he1 := h.er
    have he2 := h.ec
    by_cases hf : ∀ s ∈ L, fits c s
    · refine Cl.mono (R := RetME w r c (fun i j => stepsF L (fun p q => ent x c q p) j i) (K + wsum L)) ?_ fun e w' h' => (by unfold colsO; rw [hr, hc, if_pos h, if_pos hf]; exact h'.o (by omega))
      clear g h hr hc
      generalize ent x c = F at *
      obtain ⟨xr, xc, A1, n1, k1, l1⟩ := x
      dsimp only at he1 he2
      subst he1 he2
      refine enter Tryz.func15 rfl rfl rfl ?_
      have hF := Fr.refl w
      repeat' (first | (refine TL.isOp ?_; first | (refine TL.isCall ?_; refine TL.call rfl rfl ?_; first | (refine (ht _ hF.ext).mono ?_; rintro _ wu ⟨zu, rfl, hLu, hE, hf'⟩; have hcg := fun i j hi hj => hLu.ent (i := i) (j := j) hi hj; obtain ⟨Au, ku, lu, rfl⟩ := lm_mk hLu; rw [mvc_mk _ _ Au]; replace hF := Fr.addLM hF hE hLu hf'; clear hE hf' hLu; refine Back.mk ?_) | (refine (rrows_ok _ ⟨c, r, Au, c * r, ku, lu⟩ c r K (Fr.lm hF (by repeat (first | exact memH | apply memT))).gm A m k L (hs.ext hF.ext) hm hK hf).mono ?_; rintro _ wz ⟨zz, rfl, hLz, hE, hf'⟩; have hLz2 := hLz.congrF fun i j hi hj => stepsF_congr L hf (fun p q hp hq => hcg p q hp hq) i j hi hj; obtain ⟨Az, kz, lz, rfl⟩ := lm_mk hLz; rw [mvc_mk _ _ Az]; replace hF := Fr.addLM hF hE hLz2 hf'; clear hE hf' hLz hLz2; refine Back.mk ?_) | (refine (rturn_ok _ ⟨c, r, Az, c * r, kz, lz⟩ c r (K + wsum L) (Fr.lm hF (x := ⟨c, r, Az, c * r, kz, lz⟩) (by repeat (first | exact memH | apply memT))).gm (by omega)).mono ?_; rintro _ wz ⟨⟨yr, yc, yA, yn, yk, yl⟩, rfl, hLy, hE, hf'⟩; have hLy2 := hLy.congrF (G := fun i j => stepsF L (fun p q => F q p) j i) fun i j hi hj => (Fr.lm hF (x := ⟨c, r, Az, c * r, kz, lz⟩) (by repeat (first | exact memH | apply memT))).ent hj hi; have hfy := hf'.mono hF.ext.size; replace hF := Fr.addLM hF hE hLy2 hf'; clear hE hf' hLy hLy2; refine Back.mk ?_)) | (refine TL.isBin ?_; refine TL.cmpG rfl rfl rfl rfl (fun hc => ?_) (fun hc => ?_) <;> (try (first | (exfalso; omega) | exact absurd rfl hc))) | (apply TL.ev; (case hd => rfl); (case h => (first | exact ev_simple rfl | (apply Ev.isLoad; first | exact ev_loadAFr hF rfl (by refine ⟨?_, ?_⟩; (focus (repeat (first | exact InV.head | apply InV.tail))); rfl))))) | (refine TL.storeAFr hF rfl rfl rfl rfl (by refine ⟨?_, ?_⟩; (focus (repeat (first | apply SetV.head | apply SetV.tail))); rfl) rfl ?_; clear hF; intro ws hF) | (refine TL.boxAFr hF (d := 2) (cs := [.int .i64 (r : Int), .int .i64 (c : Int), .slice A1 n1 k1]) rfl rfl ?_; clear hF; intro w2 b2 hF) | (refine TL.allocFr hF (d := 4) rfl rfl ?_; clear hF; intro w4 b4 hF) | (refine TL.allocFr hF (d := 6) rfl rfl ?_; clear hF; intro w6 b6 hF) | (refine TL.allocFr hF (d := 8) rfl rfl ?_; clear hF; intro w8 b8 hF)) | (refine T.is ?_; first | refine T.seq ?_ | refine T.region ?_ | refine T.cond_f rfl ?_ | refine T.ret ?_ | refine T.skip ?_) | (refine G.is ?_; first | refine G.next ?_) | refine TL.nil ?_)
      exact G.retC2 rfl rfl rfl (held_agg (hF.var (by repeat (first | exact InV.head | apply InV.tail))) rfl) ⟨⟨yr, yc, yA, yn, yk, yl⟩, rfl, Fr.lm hF (x := ⟨yr, yc, yA, yn, yk, yl⟩) (by repeat (first | exact memH | apply memT)), hF.ext, hfy⟩
    · refine Cl.mono (R := RetMF w 3) ?_ fun e w' h' => (by unfold colsO; rw [hr, hc, if_pos h, if_neg hf]; exact h'.o _ _)
      clear g h hr hc
      generalize ent x c = F at *
      obtain ⟨xr, xc, A1, n1, k1, l1⟩ := x
      dsimp only at he1 he2
      subst he1 he2
      refine enter Tryz.func15 rfl rfl rfl ?_
      have hF := Fr.refl w
      repeat' (first | (refine TL.isOp ?_; first | (refine TL.isCall ?_; refine TL.call rfl rfl ?_; first | (refine (ht _ hF.ext).mono ?_; rintro _ wu ⟨zu, rfl, hLu, hE, hf'⟩; obtain ⟨Au, ku, lu, rfl⟩ := lm_mk hLu; rw [mvc_mk _ _ Au]; replace hF := Fr.addLM hF hE hLu hf'; clear hE hf' hLu; refine Back.mk ?_) | (refine (rrows_unfit _ ⟨c, r, Au, c * r, ku, lu⟩ c r K (Fr.lm hF (by repeat (first | exact memH | apply memT))).gm (by omega) A m k L (hs.ext hF.ext) hm hf).mono ?_; rintro _ wz ⟨rfl, hE⟩; replace hF := hF.exts hE; clear hE; refine Back.mk ?_)) | (refine TL.isBin ?_; refine TL.cmpG rfl rfl rfl rfl (fun hc => ?_) (fun hc => ?_) <;> (try (first | (exfalso; omega) | exact absurd rfl hc))) | (apply TL.ev; (case hd => rfl); (case h => (first | exact ev_simple rfl | (apply Ev.isLoad; first | exact ev_loadAFr hF rfl (by refine ⟨?_, ?_⟩; (focus (repeat (first | exact InV.head | apply InV.tail))); rfl)) | exact ev_buildX rfl rfl))) | (refine TL.storeAFr hF rfl rfl rfl rfl (by refine ⟨?_, ?_⟩; (focus (repeat (first | apply SetV.head | apply SetV.tail))); rfl) rfl ?_; clear hF; intro ws hF) | (refine TL.boxAFr hF (d := 2) (cs := [.int .i64 (r : Int), .int .i64 (c : Int), .slice A1 n1 k1]) rfl rfl ?_; clear hF; intro w2 b2 hF) | (refine TL.allocFr hF (d := 4) rfl rfl ?_; clear hF; intro w4 b4 hF) | (refine TL.allocFr hF (d := 6) rfl rfl ?_; clear hF; intro w6 b6 hF) | (refine TL.allocFr hF (d := 8) rfl rfl ?_; clear hF; intro w8 b8 hF)) | (refine T.is ?_; first | refine T.seq ?_ | refine T.region ?_ | refine T.cond_t rfl ?_ | refine T.cond_f rfl ?_ | refine T.ret ?_ | refine T.skip ?_) | (refine G.is ?_; first | refine G.next ?_ | refine G.thenR ?_) | refine TL.nil ?_)
      exact G.retC2 rfl rfl rfl (held_agg (hF.var (by repeat (first | exact InV.head | apply InV.tail))) rfl) ⟨rfl, hF.ext⟩
  · refine Cl.mono (R := RetMF w 1) ?_ fun e w' h' => (by unfold colsO; rw [if_neg h]; exact h'.o _ _)
    have hck := fun w => rturn_bad w x (no_sound h)
    clear h g
    obtain ⟨xr, xc, A1, n1, k1, l1⟩ := x
    refine enter Tryz.func15 rfl rfl rfl ?_
    have hF := Fr.refl w
    repeat' (first | (refine TL.isOp ?_; first | (refine TL.isCall ?_; refine TL.call rfl rfl ?_; first | (refine (hck _).mono ?_; rintro _ wy ⟨rfl, hE⟩; replace hF := hF.exts hE; clear hE; refine Back.mk ?_)) | (refine TL.isBin ?_; refine TL.cmpG rfl rfl rfl rfl (fun hc => ?_) (fun hc => ?_) <;> (try (first | (exfalso; omega) | exact absurd rfl hc))) | (apply TL.ev; (case hd => rfl); (case h => (first | exact ev_simple rfl | (apply Ev.isLoad; first | exact ev_loadAFr hF rfl (by refine ⟨?_, ?_⟩; (focus (repeat (first | exact InV.head | apply InV.tail))); rfl)) | exact ev_buildX rfl rfl))) | (refine TL.storeAFr hF rfl rfl rfl rfl (by refine ⟨?_, ?_⟩; (focus (repeat (first | apply SetV.head | apply SetV.tail))); rfl) rfl ?_; clear hF; intro ws hF) | (refine TL.boxAFr hF (d := 2) (cs := [.int .i64 xr, .int .i64 xc, .slice A1 n1 k1]) rfl rfl ?_; clear hF; intro w2 b2 hF) | (refine TL.allocFr hF (d := 4) rfl rfl ?_; clear hF; intro w4 b4 hF) | (refine TL.allocFr hF (d := 6) rfl rfl ?_; clear hF; intro w6 b6 hF)) | (refine T.is ?_; first | refine T.seq ?_ | refine T.region ?_ | refine T.cond_t rfl ?_ | refine T.ret ?_) | (refine G.is ?_; first | refine G.next ?_ | refine G.thenR ?_) | refine TL.nil ?_)
    exact G.retC2 rfl rfl rfl (held_agg (hF.var (by repeat (first | exact InV.head | apply InV.tail))) rfl) ⟨rfl, hF.ext⟩
end Go.Proofs.YtdhmhjbmkimplaaGreat

namespace Go.Proofs.YtdhmhjbmkimplaaGreat
open Go Go.Eng Go.Proofs Go.NatM Go.RowKit

/-- what a step tells: its kind, lines and number -/
structure SV where
  kind : Int
  i : Int
  j : Int
  k : Int
structure StV (H : Array Obj) (t : SP) (v : SV) (K : Nat) : Prop where
  kind : t.kind = v.kind
  i : t.i = v.i
  j : t.j = v.j
  k : LI H v.k t.k
  n : t.k.m.n ≤ K
theorem StV.ext {w w' : World} {t : SP} {v : SV} {K : Nat} (hE : Ext w w') (h : StV w.heap t v K) : StV w'.heap t v K := ⟨h.kind, h.i, h.j, h.k.ext hE, h.n⟩
theorem StV.de {F : Nat → Prop} {H H' : Array Obj} {t : SP} {v : SV} {K : Nat} (hd : DE F H H') (h : StV H t v K) : StV H' t v K := ⟨h.kind, h.i, h.j, h.k.de hd, h.n⟩
theorem StV.mono {H : Array Obj} {t : SP} {v : SV} {K K' : Nat} (h : StV H t v K) (hK : K ≤ K') : StV H t v K' := ⟨h.kind, h.i, h.j, h.k, Nat.le_trans h.n hK⟩
structure StT (H : Array Obj) (T : List SP) (V : List SV) (K : Nat) : Prop where
  len : T.length = V.length
  g : ∀ (q : Nat) t v, T[q]? = some t → V[q]? = some v → StV H t v K
theorem StT.ext {w w' : World} {T : List SP} {V : List SV} {K : Nat} (hE : Ext w w') (h : StT w.heap T V K) : StT w'.heap T V K := ⟨h.len, fun q t v a b => (h.g q t v a b).ext hE⟩
theorem StT.nil (H : Array Obj) (K : Nat) : StT H [] [] K := ⟨rfl, fun q t v a => by simp at a⟩
theorem StT.snoc {H : Array Obj} {T : List SP} {V : List SV} {K q : Nat} {t : SP} {v : SV} (h : StT H T (V.take q) K) (hq : V[q]? = some v) (ht : StV H t v K) : StT H (T ++ [t]) (V.take (q + 1)) K := by
  have hlt := (List.getElem?_eq_some_iff.1 hq).1
  have hl := h.len
  rw [List.length_take] at hl
  refine ⟨by rw [List.length_append, List.length_take, List.length_singleton]; omega, fun p t' v' a b => ?_⟩
  rcases Nat.lt_or_ge p q with h1 | h1
  · rw [List.getElem?_append_left (by omega)] at a
    rw [List.getElem?_take, if_pos (by omega)] at b
    exact h.g p t' v' a (by rw [List.getElem?_take, if_pos h1]; exact b)
  · have hp : p = q := by
      have := (List.getElem?_eq_some_iff.1 b).1
      rw [List.length_take] at this
      omega
    subst hp
    rw [List.getElem?_append_right (by omega), show p - T.length = 0 by omega] at a
    rw [List.getElem?_take, if_pos (by omega), hq] at b
    cases b
    simp at a
    subst a
    exact ht
def dpST (T : List SP) (V : List SV) (K : Nat) : DP := ⟨fun H => StT H T V K, fun _ => False, fun _ _ _ h => h.elim, fun _ _ hd h => ⟨h.len, fun q t v a b => (h.g q t v a b).de hd⟩⟩
def dpSV (t : SP) (v : SV) (K : Nat) : DP := ⟨fun H => StV H t v K, fun _ => False, fun _ _ _ h => h.elim, fun _ _ hd h => h.de hd⟩
section
variable {S : Nat → Prop} {w0 w w' : World} {L : List VB} {D : List DP}
theorem Fr.addST (h : Fr w0 w L D S) {T : List SP} {V : List SV} {K : Nat} (k : StT w.heap T V K) : Fr w0 w L (dpST T V K :: D) S := h.add _ k fun _ _ h => h
theorem Fr.st (h : Fr w0 w L D S) {T : List SP} {V : List SV} {K : Nat} (hm : dpST T V K ∈ D) : StT w.heap T V K := h.data _ hm
theorem Fr.addSV (h : Fr w0 w L D S) {t : SP} {v : SV} {K : Nat} (k : StV w.heap t v K) : Fr w0 w L (dpSV t v K :: D) S := h.add _ k fun _ _ h => h
theorem Fr.sv (h : Fr w0 w L D S) {t : SP} {v : SV} {K : Nat} (hm : dpSV t v K ∈ D) : StV w.heap t v K := h.data _ hm
end
attribute [irreducible] dpST dpSV

/-- what the inverse of a step tells, and what a step itself tells in its clean form -/
def invV (s : SP) : SV := ⟨s.kind, s.i, if s.kind = 2 then 0 else s.j, if s.kind = 3 then - ival s.k else 0⟩
def tellV (s : SP) : SV := ⟨s.kind, s.i, if s.kind = 2 then 0 else s.j, if s.kind = 3 then ival s.k else 0⟩
def RetBack (w : World) (s : SP) (z : Int) (K : Nat) (e : Ending) (w' : World) : Prop := ∃ x : IV, e = .returned (mvv s x) ∧ (s.kind = 3 → LI w'.heap (- z) x ∧ x.m.n ≤ K) ∧ Ext w w'
set_option maxHeartbeats 1000000 in
theorem back_ok (w : World) (s : SP) (xv : IV) (n K : Nat) (z : Int) (hf : fits n s) (hv : s.kind = 3 → LI w.heap z xv ∧ xv.m.n ≤ K) (hK : K ≤ 8796093022000) : Cl Tryz.prog 54 #[mvv s xv] w (RetBack w s z K) := by
  obtain ⟨kd, i, j, kk⟩ := s
  obtain ⟨xn, ⟨xA, xm, xc, xl⟩⟩ := xv
  dsimp only at hv
  rcases hf with ⟨h, _⟩ | ⟨h, _⟩ | ⟨h, _⟩
  · dsimp only at h
    subst h
    rw [show mvv ⟨1, i, j, kk⟩ ⟨xn, ⟨xA, xm, xc, xl⟩⟩ = .iface 125 (.agg #[.int .i64 i, .int .i64 j]) from rfl]
    refine enter Tryz.func54 rfl rfl rfl ?_
    have hF := Fr.refl w
    repeat' (first | (refine TL.isOp ?_; first | (apply TL.ev; (case hd => rfl); (case h => (first | exact ev_simple rfl | exact ev_assert_f rfl rfl)))) | (refine T.is ?_; first | refine T.seq ?_ | refine T.region ?_ | refine T.block ?_ | refine T.cond_f rfl ?_ | refine T.ret ?_) | (refine G.is ?_; first | refine G.next ?_ | refine G.blockR ?_) | refine TL.nil ?_)
    exact G.ret1 rfl rfl ⟨default, rfl, fun h => absurd h (by simp), hF.ext⟩
  · dsimp only at h
    subst h
    rw [show mvv ⟨2, i, j, kk⟩ ⟨xn, ⟨xA, xm, xc, xl⟩⟩ = .iface 127 (.agg #[.int .i64 i]) from rfl]
    refine enter Tryz.func54 rfl rfl rfl ?_
    have hF := Fr.refl w
    repeat' (first | (refine TL.isOp ?_; first | (apply TL.ev; (case hd => rfl); (case h => (first | exact ev_simple rfl | exact ev_assert_f rfl rfl)))) | (refine T.is ?_; first | refine T.seq ?_ | refine T.region ?_ | refine T.block ?_ | refine T.cond_f rfl ?_ | refine T.ret ?_) | (refine G.is ?_; first | refine G.next ?_ | refine G.blockR ?_) | refine TL.nil ?_)
    exact G.ret1 rfl rfl ⟨default, rfl, fun h => absurd h (by simp), hF.ext⟩
  · dsimp only at h
    subst h
    obtain ⟨hL, hn⟩ := hv rfl
    have hng := fun w1 (hE : Ext w w1) => zneg_ok w1 ⟨xn, ⟨xA, xm, xc, xl⟩⟩ (hL.ext hE).g (by dsimp only; omega)
    rw [hL.val] at hng
    rw [show mvv ⟨3, i, j, kk⟩ ⟨xn, ⟨xA, xm, xc, xl⟩⟩ = .iface 115 (.agg #[.int .i64 i, .int .i64 j, .bool xn, .slice xA xm xc]) from rfl]
    refine enter Tryz.func54 rfl rfl rfl ?_
    have hF := Fr.refl w
    repeat' (first | (refine TL.isOp ?_; first | (refine TL.isCall ?_; refine TL.call rfl rfl ?_; first | (refine (hng _ hF.ext).mono ?_; rintro _ w1 ⟨⟨un, ⟨uA, um, uc, ul⟩⟩, rfl, hLu, hE, hKu⟩; replace hF := Fr.addLI (hF.exts hE) hLu; clear hE hLu; refine Back.mk ?_)) | (apply TL.ev; (case hd => rfl); (case h => (first | exact ev_simple rfl | exact ev_assert_t rfl))) | (refine TL.storeAFr hF rfl rfl rfl rfl (by refine ⟨?_, ?_⟩; (focus (repeat (first | apply SetV.head | apply SetV.tail))); rfl) rfl ?_; clear hF; intro ws hF) | (refine TL.allocFr hF (d := 3) rfl rfl ?_; clear hF; intro w3 b3 hF)) | (refine TF.is ?_; first | refine TF.nil ?_ | refine TF.e rfl ?_ | (refine TF.pick rfl ?_; first | (apply TFo.ev; (case hd => rfl); (case h => (intro wh hF; first | exact ev_simple rfl | (apply Ev.isLoad; first | exact ev_loadFr hF rfl (by refine ⟨?_, ?_⟩; (focus (repeat (first | exact InV.head | apply InV.tail))); rfl) | exact ev_loadAFr hF rfl (by refine ⟨?_, ?_⟩; (focus (repeat (first | exact InV.head | apply InV.tail))); rfl)) | exact ev_fieldAddr rfl | exact ev_buildX rfl rfl | exact ev_iface rfl))))) | (refine T.is ?_; first | refine T.seq ?_ | refine T.region ?_ | refine T.block ?_ | refine T.cond_t rfl ?_ | refine T.ret ?_ | (refine T.regionFr hF 6 10 (.s 0 (.s 1 (.s 2 (.s 3 (.s 4 (.s 5 (.e 6 (.s 7 (.s 8 (.s 9 .nil)))))))))) mixed (by kernel_rfl) ?_; clear hF; intro wr hF)) | (refine G.is ?_; first | refine G.next ?_ | refine G.blockR ?_ | refine G.only ?_ | refine G.tree rfl (by first | exact hF | exact hF.weak (by repeat (first | exact List.Sublist.refl _ | apply List.Sublist.cons)) (by repeat (first | exact allR | apply allT)) | exact hF.weak (by repeat (first | exact List.Sublist.refl _ | apply List.Sublist.cons)) (by repeat (first | exact allN | refine allH (by repeat (first | exact memH | apply memT)) ?_))) ?_) | refine TL.nil ?_)
    exact G.ret1 rfl rfl ⟨⟨un, ⟨uA, um, uc, ul⟩⟩, rfl, fun _ => ⟨Fr.li hF (by repeat (first | exact memH | apply memT)), by dsimp only at hKu ⊢; omega⟩, hF.ext⟩
def RetTl (w : World) (v : SV) (K : Nat) (e : Ending) (w' : World) : Prop := ∃ t : SP, e = .returned (.agg (spc t).toArray) ∧ StV w'.heap t v K ∧ Ext w w'
theorem swap_step (w : World) (i j : Int) (K : Nat) : Cl Tryz.prog 207 #[.agg #[.int .i64 i, .int .i64 j]] w (RetTl w ⟨1, i, j, 0⟩ K) := by
  refine enter Tryz.func207 rfl rfl rfl ?_
  have hF := Fr.refl w
  repeat' (first | (refine TL.isOp ?_; first | (apply TL.ev; (case hd => rfl); (case h => (first | (apply Ev.isLoad; first | exact ev_loadFr hF rfl (by refine ⟨?_, ?_⟩; (focus (repeat (first | exact InV.head | apply InV.tail))); rfl)) | exact ev_fieldAddr rfl | exact ev_buildX rfl rfl))) | (refine TL.storeAFr hF rfl rfl rfl rfl (by refine ⟨?_, ?_⟩; (focus (repeat (first | apply SetV.head | apply SetV.tail))); rfl) rfl ?_; clear hF; intro ws hF) | (refine TL.boxAFr hF (d := 1) (cs := [.int .i64 i, .int .i64 j]) rfl rfl ?_; clear hF; intro w1 b1 hF) | (refine TL.allocFr hF (d := 2) rfl rfl ?_; clear hF; intro w2 b2 hF)) | (refine T.is ?_; first | refine T.seq ?_ | refine T.region ?_ | refine T.ret ?_) | (refine G.is ?_; first | refine G.next ?_) | refine TL.nil ?_)
  exact G.retC1 rfl rfl (held_agg (hF.var (by repeat (first | exact InV.head | apply InV.tail))) rfl) ⟨⟨1, i, j, nought⟩, rfl, ⟨rfl, rfl, rfl, li_n0 _, Nat.zero_le _⟩, hF.ext⟩
theorem neg_step (w : World) (i : Int) (K : Nat) : Cl Tryz.prog 210 #[.agg #[.int .i64 i]] w (RetTl w ⟨2, i, 0, 0⟩ K) := by
  refine enter Tryz.func210 rfl rfl rfl ?_
  have hF := Fr.refl w
  repeat' (first | (refine TL.isOp ?_; first | (apply TL.ev; (case hd => rfl); (case h => (first | (apply Ev.isLoad; first | exact ev_loadFr hF rfl (by refine ⟨?_, ?_⟩; (focus (repeat (first | exact InV.head | apply InV.tail))); rfl)) | exact ev_fieldAddr rfl | exact ev_buildX rfl rfl))) | (refine TL.storeAFr hF rfl rfl rfl rfl (by refine ⟨?_, ?_⟩; (focus (repeat (first | apply SetV.head | apply SetV.tail))); rfl) rfl ?_; clear hF; intro ws hF) | (refine TL.boxAFr hF (d := 1) (cs := [.int .i64 i]) rfl rfl ?_; clear hF; intro w1 b1 hF) | (refine TL.allocFr hF (d := 2) rfl rfl ?_; clear hF; intro w2 b2 hF)) | (refine T.is ?_; first | refine T.seq ?_ | refine T.region ?_ | refine T.ret ?_) | (refine G.is ?_; first | refine G.next ?_) | refine TL.nil ?_)
  exact G.retC1 rfl rfl (held_agg (hF.var (by repeat (first | exact InV.head | apply InV.tail))) rfl) ⟨⟨2, i, 0, nought⟩, rfl, ⟨rfl, rfl, rfl, li_n0 _, Nat.zero_le _⟩, hF.ext⟩
theorem add_step (w : World) (i j z : Int) (x : IV) (K : Nat) (hL : LI w.heap z x) (hn : x.m.n ≤ K) (hK : K ≤ 8796093022000) : Cl Tryz.prog 202 #[.agg (.int .i64 i :: .int .i64 j :: ivc x).toArray] w (RetTl w ⟨3, i, j, z⟩ K) := by
  have hng := fun w1 (hE : Ext w w1) => zleast_ok w1 x (hL.ext hE).g (by omega)
  rw [hL.val] at hng
  clear hL
  obtain ⟨xn, ⟨xA, xm, xc, xl⟩⟩ := x
  dsimp only at hn
  refine enter Tryz.func202 rfl rfl rfl ?_
  have hF := Fr.refl w
  repeat' (first | (refine TL.isOp ?_; first | (refine TL.isCall ?_; refine TL.call rfl rfl ?_; first | (refine (hng _ hF.ext).mono ?_; rintro _ w1 ⟨⟨un, ⟨uA, um, uc, ul⟩⟩, rfl, hLu, hE, hKu⟩; replace hF := Fr.addLI (hF.exts hE) hLu; clear hE hLu; refine Back.mk ?_)) | (refine TL.storeAFr hF rfl rfl rfl rfl (by refine ⟨?_, ?_⟩; (focus (repeat (first | apply SetV.head | apply SetV.tail))); rfl) rfl ?_; clear hF; intro ws hF) | (refine TL.boxAFr hF (d := 1) (cs := [.int .i64 i, .int .i64 j, .bool xn, .slice xA xm xc]) rfl rfl ?_; clear hF; intro w1 b1 hF) | (refine TL.allocFr hF (d := 2) rfl rfl ?_; clear hF; intro w2 b2 hF)) | (refine TF.is ?_; first | refine TF.nil ?_ | refine TF.e rfl ?_ | (refine TF.pick rfl ?_; first | (apply TFo.ev; (case hd => rfl); (case h => (intro wh hF; first | (apply Ev.isLoad; first | exact ev_loadFr hF rfl (by refine ⟨?_, ?_⟩; (focus (repeat (first | exact InV.head | apply InV.tail))); rfl) | exact ev_loadAFr hF rfl (by refine ⟨?_, ?_⟩; (focus (repeat (first | exact InV.head | apply InV.tail))); rfl)) | exact ev_fieldAddr rfl | exact ev_buildX rfl rfl))))) | (refine T.is ?_; first | refine T.seq ?_ | refine T.region ?_ | refine T.ret ?_ | (refine T.regionFr hF 1 8 (.s 0 (.s 1 (.s 2 (.s 3 (.s 4 (.s 5 (.e 6 (.s 7 (.e 8 .nil))))))))) mixed (by kernel_rfl) ?_; clear hF; intro wr hF)) | (refine G.is ?_; first | refine G.next ?_ | refine G.only ?_ | refine G.treeEnd rfl ?_ | refine G.tree rfl (by first | exact hF | exact hF.weak (by repeat (first | exact List.Sublist.refl _ | apply List.Sublist.cons)) (by repeat (first | exact allR | apply allT)) | exact hF.weak (by repeat (first | exact List.Sublist.refl _ | apply List.Sublist.cons)) (by repeat (first | exact allN | refine allH (by repeat (first | exact memH | apply memT)) ?_))) ?_) | refine TL.nil ?_)
  exact G.retC1 rfl rfl (held_agg (hF.var (by repeat (first | exact InV.head | apply InV.tail))) rfl) ⟨⟨3, i, j, ⟨un, ⟨uA, um, uc, ul⟩⟩⟩, rfl, ⟨rfl, rfl, rfl, Fr.li hF (by repeat (first | exact memH | apply memT)), by dsimp only at hKu ⊢; omega⟩, hF.ext⟩
/-- what a move tells -/
def mvV (s : SP) (z : Int) : SV := ⟨s.kind, s.i, if s.kind = 2 then 0 else s.j, if s.kind = 3 then z else 0⟩
section
variable {N : Fm} {Q : Exit → Act → World → Prop} {σ : Store} {w : World} {ops : Array Oper} {d : Nat} {t : TypeId} {pos : String} {af : Array Edge} {rest : List Oper}
/-- a move tells itself -/
theorem TL.stepMv {x : Operand} {xs : List Operand} {tys : Array TypeId} {s : SP} {xv : IV} {n K : Nat} {z : Int} (hr : Eng.look σ x = some (mvv s xv)) (hx : looks σ xs = some []) (hd : Nat.blt d N.n = true) (hf : fits n s) (hv : s.kind = 3 → LI w.heap z xv ∧ xv.m.n ≤ K) (hK : K ≤ 8796093022000)
    (Kt : ∀ (u : SP) (w' : World), StV w'.heap u (mvV s z) K → Ext w w' → TL Tryz.prog N .seq ops Q rest ((d, .agg (spc u).toArray) :: σ) w') :
    TL Tryz.prog N .seq ops Q (⟨some d, .call { callee := .invoke x "trellis/steps.step", args := xs.toArray, argTypes := tys }, t, pos, af, none⟩ :: rest) σ w := by
  unfold mvv at hr
  rcases hf with ⟨h, _⟩ | ⟨h, _⟩ | ⟨h, _⟩
  · rw [if_pos h] at hr
    refine TL.callI hr hx hd ((swap_step w s.i s.j K).mono ?_)
    rintro _ w' ⟨u, rfl, hu, hE⟩
    exact Back.mk (Kt u w' (by unfold mvV; rw [h, if_neg (by decide), if_neg (by decide)]; exact hu) hE)
  · rw [if_neg (by omega), if_pos h] at hr
    refine TL.callI hr hx hd ((neg_step w s.i K).mono ?_)
    rintro _ w' ⟨u, rfl, hu, hE⟩
    exact Back.mk (Kt u w' (by unfold mvV; rw [h, if_pos rfl, if_neg (by decide)]; exact hu) hE)
  · rw [if_neg (by omega), if_neg (by omega), if_pos h] at hr
    obtain ⟨hL, hn⟩ := hv h
    refine TL.callI hr hx hd ((add_step w s.i s.j z xv K hL hn hK).mono ?_)
    rintro _ w' ⟨u, rfl, hu, hE⟩
    exact Back.mk (Kt u w' (by unfold mvV; rw [h, if_neg (by decide), if_pos rfl]; exact hu) hE)
end
/-- a list of steps and an error -/
def RetIv (w : World) (V : List SV) (err : Int) (K : Nat) (e : Ending) (w' : World) : Prop := ∃ A m k T, e = .returned (.tuple #[.slice A m k, .int .i64 err]) ∧ Sm 5 spc w'.heap w'.heap.size A m k T ∧ StT w'.heap T V K ∧ Ext w w' ∧ LF w A m
theorem RetIv.empty {w w' : World} {err : Int} (K : Nat) (hE : Ext w w') : RetIv w [] err K (.returned (.tuple #[.slice none 0 0, .int .i64 err])) w' :=
  ⟨none, 0, 0, [], rfl, ⟨rfl, Nat.le_refl _, by omega, fun x hx => (by cases hx), .inl rfl⟩, StT.nil _ _, hE, .inl rfl⟩
/-- the inverse's list -/
def invL (L : List SP) : List SV := L.reverse.map invV
theorem invL_at {L : List SP} {p : Nat} {s : SP} (h : L[p]? = some s) : (invL L)[L.length - (p + 1)]? = some (invV s) := by
  have hlt := (List.getElem?_eq_some_iff.1 h).1
  unfold invL
  rw [List.getElem?_map, List.getElem?_reverse (by omega), show L.length - 1 - (L.length - (p + 1)) = p by omega, h]; rfl
theorem invL_len (L : List SP) : (invL L).length = L.length := by unfold invL; rw [List.length_map, List.length_reverse]
open Classical in
noncomputable def invErr (n : Int) (L : List SP) : Int := if FitAll n L then 0 else 3
open Classical in
noncomputable def invO (n : Int) (L : List SP) : List SV := if FitAll n L then invL L else []
theorem mvV_inv (s : SP) (z : Int) (hz : s.kind = 3 → z = - ival s.k) : mvV s z = invV s := by
  unfold mvV invV
  by_cases h : s.kind = 3
  · rw [if_pos h, if_pos h, hz h]
  · rw [if_neg h, if_neg h]
/-- a list under way -/
def IvS (w w' : World) (b m : Nat) (V : List SV) (K q : Nat) : Prop := ∃ (T : List SP) (zs : List Value), T.length = q ∧ q ≤ m ∧ zs.length = (m - q) * 5 ∧ zs.all noU64 = true ∧ Fr w w' [⟨b, 53, T.flatMap spc ++ zs⟩] [dpST T (V.take q) K]
theorem spc_all (l : List SP) (zs : List Value) (hz : zs.all noU64 = true) : (l.flatMap spc ++ zs).all noU64 = true := by rw [List.all_append, spc_noV l, hz]; rfl
set_option maxRecDepth 100000 in
set_option maxHeartbeats 2000000 in
theorem sinverse_ok (w : World) (n : Int) (A : Option Addr) (m k : Nat) (L : List SP) (hs : SS w.heap A m k L) (hK : wsum L ≤ 4398046511104) (hm : m ≤ 1048576) : Cl Tryz.prog 19 #[.int .i64 n, .slice A m k] w (RetIv w (invO n L) (invErr n L) (wsum L)) := by
  have hlen := hs.s.len
  have hck := fun w1 (hE : Ext w w1) => scheckS_ok w1 n A m k 0 L (hs.ext hE) hK hm
  by_cases hfit : FitAll n L
  · unfold invO invErr
    rw [if_pos hfit, if_pos hfit]
    refine enter Tryz.func19 rfl rfl rfl ?_
    have hF := Fr.refl w
    repeat' (first | (refine TL.isOp ?_; first | (refine TL.isCall ?_; refine TL.call rfl rfl ?_; first | (refine (hck _ hF.ext).mono ?_; rintro _ wy ⟨z, err, rfl, hCk, hE⟩; obtain rfl := hCk.err0 hfit; replace hF := hF.exts hE; clear hE hCk; refine Back.mk ?_)) | (refine TL.isBin ?_; refine TL.cmpG rfl rfl rfl rfl (fun hc => ?_) (fun hc => ?_) <;> (try (first | (exfalso; omega) | exact absurd rfl hc))) | (apply TL.ev; (case hd => rfl); (case h => (first | exact ev_simple rfl | (apply Ev.isBin; first | exact ev_arI rfl rfl rfl (by omega)) | exact ev_len rfl))) | (refine TL.makeFr hF spc zeroSP (d := 21) rfl rfl rfl (Nat.zero_le _) (by omega) rfl rfl rfl ?_; clear hF; intro w21 b21 hF)) | (refine T.is ?_; first | refine T.seq ?_ | refine T.region ?_ | refine T.block ?_ | refine T.cond_f rfl ?_ | refine T.skip ?_) | (refine G.is ?_; first | refine G.next ?_) | refine TL.nil ?_)
    have hI0 : IvS w w21 b21 m (invL L) (wsum L) (m - m) := ⟨[], (List.replicate m zeroSP).flatMap spc, by simp, by omega, by rw [flatMap_len (k := 5) (fun x _ => rfl)]; simp, spc_noV _, by
      rw [Nat.sub_self, List.take_zero]
      simpa using Fr.addST hF (StT.nil _ (wsum L))⟩
    clear hF
    refine T.loop (α := Nat) (fun p => [(1, .slice A m k), (8, .slice (some ⟨b21, 0, none⟩) (m - p) m), (9, .int .i64 ((p : Int) - 1))]) (fun p w' => p ≤ m ∧ IvS w w' b21 m (invL L) (wsum L) (m - p)) (fun p => p) m (by rw [Nat.sub_self]; exact (by repeat (first | exact Sub.nil _ | refine Sub.cons rfl ?_ | refine Sub.cons' rfl (int_congr (by omega)) ?_))) ⟨Nat.le_refl _, hI0⟩ ?_
    clear hI0
    rintro p w2 ⟨hp, tl, zs, hT, hq, hzs, hzn, hF⟩
    rcases Nat.eq_zero_or_pos p with h0 | h0
    · subst h0
      obtain rfl : zs = [] := List.eq_nil_of_length_eq_zero (by rw [hzs]; omega)
      repeat' (first | (refine TL.isOp ?_; first | (refine TL.isBin ?_; refine TL.cmpG rfl rfl rfl rfl (fun hc => ?_) (fun hc => ?_) <;> (try (first | (exfalso; omega) | exact absurd rfl hc))) | (apply TL.ev; (case hd => rfl); (case h => (first | exact ev_simple rfl)))) | (refine T.is ?_; first | refine T.seq ?_ | refine T.region ?_ | refine T.cond_f rfl ?_ | refine T.exit ?_ | refine T.ret ?_) | (refine G.is ?_; first | refine G.next ?_ | refine G.blockE ?_ | refine G.thenE ?_) | refine TL.nil ?_)
      have hb := (hF.lo (b := b21) (by repeat (first | exact InV.head | apply InV.tail))).resolve_right id
      have hst := Fr.st hF (T := tl) (V := (invL L).take (m - 0)) (K := wsum L) (by repeat (first | exact memH | apply memT))
      rw [Nat.sub_zero, List.take_of_length_le (by rw [invL_len]; omega)] at hst
      exact G.ret2 rfl rfl rfl ⟨_, _, _, tl, rfl, vr_sm (by omega) (fun _ _ => rfl) (hF.var .head) hT (by omega) (hF.var .head).lt, hst, hF.ext, .inr ⟨b21, rfl, hb⟩⟩
    · obtain ⟨p, rfl⟩ : ∃ p', p = p' + 1 := ⟨p - 1, by omega⟩
      have hpn : p < m := by omega
      have hy : L[p]? = some (L.getD p default) := by simp [List.getD, show p < L.length by omega]
      have hmem := List.mem_of_getElem? hy
      generalize L.getD p default = y at *
      have hwy := wsum_mem hmem
      have hfy := hfit.2 y hmem
      have hVy := invL_at hy
      rw [hlen] at hVy
      have hsm : m - (p + 1) + 1 = m - p := by omega
      refine T.sub (σ' := [(1, .slice A m k), (8, .slice (some ⟨b21, 0, none⟩) (m - (p + 1)) m), (9, .int .i64 (p : Int))]) (by repeat (first | exact Sub.nil _ | refine Sub.cons rfl ?_ | refine Sub.cons' rfl (int_congr (by omega)) ?_)) ?_
      repeat' (first | (refine TL.isOp ?_; first | (refine TL.isCall ?_; refine TL.call rfl rfl ?_; first | (refine (read_ok _ y (wsum L) (fun h => ⟨(hs.g y hmem).ext hF.ext, by omega⟩) (by omega)).mono ?_; rintro _ w1 ⟨xv, rfl, hLx, hE⟩; replace hF := hF.exts hE; clear hE; refine Back.mk ?_) | (refine (back_ok _ y xv n.toNat (wsum L) (ival y.k) hfy hLx (by omega)).mono ?_; rintro _ w1 ⟨xb, rfl, hxb, hE⟩; replace hF := hF.exts hE; clear hE hLx; refine Back.mk ?_)) | (refine TL.isBin ?_; refine TL.cmpG rfl rfl rfl rfl (fun hc => ?_) (fun hc => ?_) <;> (try (first | (exfalso; omega) | exact absurd rfl hc))) | (apply TL.ev; (case hd => rfl); (case h => (first | exact ev_simple rfl | (apply Ev.isBin; first | exact ev_arI rfl rfl rfl (by omega)) | (apply Ev.isLoad; first | exact ev_loadM rfl (hs.s.ext hF.ext) hy) | exact ev_indexM rfl rfl hpn (hs.s.ext hF.ext).some))) | (refine TL.stepMv (s := y) (z := - ival y.k) (K := wsum L) rfl rfl rfl hfy hxb (by omega) (fun u wu hu hE => ?_); replace hF := Fr.addSV (hF.exts hE) hu; clear hE hu hxb) | (refine TL.buildXs hF (f := spc) (d := 37) [u] [.tmp 36] rfl rfl rfl rfl (by intro v hv; rw [List.mem_singleton] at hv; subst hv; rfl) rfl rfl (by omega) (by omega) ?_; clear hF; intro w37 b37 hF hEn hbn hSn) | (refine TL.appendAtFr (f := spc) (l := tl) (zs := zs) hF rfl rfl rfl rfl hSn (fun _ => rfl) (fun _ => rfl) rfl rfl hT hzs hq (spc_all tl zs hzn) (by omega) (by repeat (first | apply SetV.head | apply SetV.tail)) (fun hle wn hFn => ?_) (fun hgr => absurd hgr (by omega)); clear hF hSn hEn hbn; have hF := hFn; clear hFn)) | (refine T.is ?_; first | refine T.seq ?_ | refine T.region ?_ | refine T.block ?_ | refine T.cond_t rfl ?_ | refine T.skip ?_) | (refine G.is ?_; first | refine G.next ?_ | refine G.blockN ?_) | refine TL.nil ?_)
      have hst := (Fr.st hF (T := tl) (V := (invL L).take (m - (p + 1))) (K := wsum L) (by repeat (first | exact memH | apply memT))).snoc hVy (t := u) (by rw [← mvV_inv y (- ival y.k) (fun _ => rfl)]; exact Fr.sv hF (by repeat (first | exact memH | apply memT)))
      rw [hsm] at hst
      refine G.again p (by rw [← hsm]; exact (by repeat (first | exact Sub.nil _ | refine Sub.cons rfl ?_ | refine Sub.cons' rfl (int_congr (by omega)) ?_))) ⟨by omega, tl ++ [u], zs.drop (1 * 5), by simp [hT]; omega, by omega, by rw [List.length_drop]; omega, drop_noV hzn _, ?_⟩ (by omega)
      exact (Fr.addST hF hst).weak (.refl _) (allH (by repeat (first | exact memH | apply memT)) allN)
  · unfold invO invErr
    rw [if_neg hfit, if_neg hfit]
    refine enter Tryz.func19 rfl rfl rfl ?_
    have hF := Fr.refl w
    repeat' (first | (refine TL.isOp ?_; first | (refine TL.isCall ?_; refine TL.call rfl rfl ?_; first | (refine (hck _ hF.ext).mono ?_; rintro _ wy ⟨z, err, rfl, hCk, hE⟩; obtain rfl := hCk.err3 hfit; replace hF := hF.exts hE; clear hE; refine Back.mk ?_)) | (refine TL.isBin ?_; refine TL.cmpG rfl rfl rfl rfl (fun hc => ?_) (fun hc => ?_) <;> (try (first | (exfalso; omega) | exact absurd rfl hc))) | (apply TL.ev; (case hd => rfl); (case h => (first | exact ev_simple rfl)))) | (refine T.is ?_; first | refine T.seq ?_ | refine T.region ?_ | refine T.cond_t rfl ?_ | refine T.ret ?_) | (refine G.is ?_; first | refine G.next ?_ | refine G.thenR ?_) | refine TL.nil ?_)
    exact G.ret2 rfl rfl rfl (RetIv.empty _ hF.ext)
end Go.Proofs.YtdhmhjbmkimplaaGreat

namespace Go.Proofs.YtdhmhjbmkimplaaGreat
open Go Go.Eng Go.Proofs Go.NatM Go.RowKit

set_option maxHeartbeats 1000000 in
theorem rclean_ok (w : World) (s : SP) (n K : Nat) (hf : fits n s) (g : GI w.heap s.k) (hn : s.k.m.n ≤ K) (hK : K ≤ 1099511627776) : Cl Tryz.prog 55 #[.agg (spc s).toArray] w (RetTl w (tellV s) K) := by
  obtain ⟨kd, i, j, ⟨xn, ⟨xA, xm, xc, xl⟩⟩⟩ := s
  dsimp only at g hn
  rcases hf with ⟨h, _⟩ | ⟨h, _⟩ | ⟨h, _⟩
  · dsimp only at h
    subst h
    refine enter Tryz.func55 rfl rfl rfl ?_
    have hF := Fr.refl w
    repeat' (first | (refine TL.isOp ?_; first | (refine TL.isBin ?_; refine TL.cmpG rfl rfl rfl rfl (fun hc => ?_) (fun hc => ?_) <;> (try (first | (exfalso; omega) | exact absurd rfl hc))) | (apply TL.ev; (case hd => rfl); (case h => (first | exact ev_simple rfl | (apply Ev.isLoad; first | exact ev_loadFr hF rfl (by refine ⟨?_, ?_⟩; (focus (repeat (first | exact InV.head | apply InV.tail))); rfl)) | exact ev_fieldAddr rfl | exact ev_buildX rfl rfl))) | (refine TL.storeAFr hF rfl rfl rfl rfl (by refine ⟨?_, ?_⟩; (focus (repeat (first | apply SetV.head | apply SetV.tail))); rfl) rfl ?_; clear hF; intro ws hF) | (refine TL.boxAFr hF (d := 1) (cs := [.int .i64 1, .int .i64 i, .int .i64 j, .bool xn, .slice xA xm xc]) rfl rfl ?_; clear hF; intro w1 b1 hF) | (refine TL.allocFr hF (d := 2) rfl rfl ?_; clear hF; intro w2 b2 hF)) | (refine T.is ?_; first | refine T.seq ?_ | refine T.region ?_ | refine T.block ?_ | refine T.cond_t rfl ?_ | refine T.ret ?_) | (refine G.is ?_; first | refine G.next ?_ | refine G.blockR ?_ | refine G.thenR ?_) | refine TL.nil ?_)
    exact G.retC1 rfl rfl (held_agg (hF.var (by repeat (first | exact InV.head | apply InV.tail))) rfl) ⟨⟨1, i, j, nought⟩, rfl, ⟨rfl, rfl, rfl, li_n0 _, Nat.zero_le _⟩, hF.ext⟩
  · dsimp only at h
    subst h
    refine enter Tryz.func55 rfl rfl rfl ?_
    have hF := Fr.refl w
    repeat' (first | (refine TL.isOp ?_; first | (refine TL.isBin ?_; refine TL.cmpG rfl rfl rfl rfl (fun hc => ?_) (fun hc => ?_) <;> (try (first | (exfalso; omega) | exact absurd rfl hc))) | (apply TL.ev; (case hd => rfl); (case h => (first | exact ev_simple rfl | (apply Ev.isLoad; first | exact ev_loadFr hF rfl (by refine ⟨?_, ?_⟩; (focus (repeat (first | exact InV.head | apply InV.tail))); rfl)) | exact ev_fieldAddr rfl | exact ev_buildX rfl rfl))) | (refine TL.storeAFr hF rfl rfl rfl rfl (by refine ⟨?_, ?_⟩; (focus (repeat (first | apply SetV.head | apply SetV.tail))); rfl) rfl ?_; clear hF; intro ws hF) | (refine TL.boxAFr hF (d := 1) (cs := [.int .i64 2, .int .i64 i, .int .i64 j, .bool xn, .slice xA xm xc]) rfl rfl ?_; clear hF; intro w1 b1 hF) | (refine TL.allocFr hF (d := 2) rfl rfl ?_; clear hF; intro w2 b2 hF)) | (refine T.is ?_; first | refine T.seq ?_ | refine T.region ?_ | refine T.block ?_ | refine T.cond_t rfl ?_ | refine T.cond_f rfl ?_ | refine T.ret ?_) | (refine G.is ?_; first | refine G.next ?_ | refine G.blockR ?_ | refine G.thenR ?_) | refine TL.nil ?_)
    exact G.retC1 rfl rfl (held_agg (hF.var (by repeat (first | exact InV.head | apply InV.tail))) rfl) ⟨⟨2, i, 0, nought⟩, rfl, ⟨rfl, rfl, rfl, li_n0 _, Nat.zero_le _⟩, hF.ext⟩
  · dsimp only at h
    subst h
    refine enter Tryz.func55 rfl rfl rfl ?_
    have hF := Fr.refl w
    repeat' (first | (refine TL.isOp ?_; first | (refine TL.isCall ?_; refine TL.call rfl rfl ?_; first | (refine (r5least_t _ ⟨xn, ⟨xA, xm, xc, xl⟩⟩ (g.ext hF.ext) (by dsimp only; omega)).mono ?_; rintro _ w1 ⟨⟨un, ⟨uA, um, uc, ul⟩⟩, rfl, hLu, hE, hKu⟩; replace hF := Fr.addLI (hF.exts hE) hLu; clear hE hLu; refine Back.mk ?_)) | (refine TL.isBin ?_; refine TL.cmpG rfl rfl rfl rfl (fun hc => ?_) (fun hc => ?_) <;> (try (first | (exfalso; omega) | exact absurd rfl hc))) | (apply TL.ev; (case hd => rfl); (case h => (first | exact ev_simple rfl | (apply Ev.isLoad; first | exact ev_loadFr hF rfl (by refine ⟨?_, ?_⟩; (focus (repeat (first | exact InV.head | apply InV.tail))); rfl)) | exact ev_fieldAddr rfl))) | (refine TL.storeAFr hF rfl rfl rfl rfl (by refine ⟨?_, ?_⟩; (focus (repeat (first | apply SetV.head | apply SetV.tail))); rfl) rfl ?_; clear hF; intro ws hF) | (refine TL.boxAFr hF (d := 1) (cs := [.int .i64 3, .int .i64 i, .int .i64 j, .bool xn, .slice xA xm xc]) rfl rfl ?_; clear hF; intro w1 b1 hF) | (refine TL.allocFr hF (d := 2) rfl rfl ?_; clear hF; intro w2 b2 hF)) | (refine TF.is ?_; first | refine TF.nil ?_ | refine TF.e rfl ?_ | (refine TF.pick rfl ?_; first | (apply TFo.ev; (case hd => rfl); (case h => (intro wh hF; first | (apply Ev.isLoad; first | exact ev_loadFr hF rfl (by refine ⟨?_, ?_⟩; (focus (repeat (first | exact InV.head | apply InV.tail))); rfl) | exact ev_loadAFr hF rfl (by refine ⟨?_, ?_⟩; (focus (repeat (first | exact InV.head | apply InV.tail))); rfl)) | exact ev_fieldAddr rfl | exact ev_buildX rfl rfl))))) | (refine T.is ?_; first | refine T.seq ?_ | refine T.region ?_ | refine T.block ?_ | refine T.cond_f rfl ?_ | refine T.ret ?_ | refine T.skip ?_ | (refine T.regionFr hF 6 10 (.s 0 (.s 1 (.s 2 (.s 3 (.s 4 (.s 5 (.s 6 (.s 7 (.e 8 (.s 9 (.e 10 .nil))))))))))) mixed (by kernel_rfl) ?_; clear hF; intro wr hF)) | (refine G.is ?_; first | refine G.next ?_ | refine G.blockN ?_ | refine G.only ?_ | refine G.treeEnd rfl ?_ | refine G.tree rfl (by first | exact hF | exact hF.weak (by repeat (first | exact List.Sublist.refl _ | apply List.Sublist.cons)) (by repeat (first | exact allR | apply allT)) | exact hF.weak (by repeat (first | exact List.Sublist.refl _ | apply List.Sublist.cons)) (by repeat (first | exact allN | refine allH (by repeat (first | exact memH | apply memT)) ?_))) ?_) | refine TL.nil ?_)
    exact G.retC1 rfl rfl (held_agg (hF.var (by repeat (first | exact InV.head | apply InV.tail))) rfl) ⟨⟨3, i, j, ⟨un, ⟨uA, um, uc, ul⟩⟩⟩, rfl, ⟨rfl, rfl, rfl, Fr.li hF (by repeat (first | exact memH | apply memT)), by dsimp only at hKu ⊢; omega⟩, hF.ext⟩
/-- a list that grows from nothing -/
def RvS (w w' : World) (V : List SV) (K q : Nat) (Av : Option Addr) (cv : Nat) : Prop := ∃ tl : List SP, tl.length = q ∧
  ((q = 0 ∧ Av = none ∧ cv = 0 ∧ Fr w w' [] [dpST tl (V.take q) K]) ∨
    ∃ (b : Nat) (zs : List Value), Av = some ⟨b, 0, none⟩ ∧ q ≤ cv ∧ zs.length = (cv - q) * 5 ∧ zs.all noU64 = true ∧ Fr w w' [⟨b, 53, tl.flatMap spc ++ zs⟩] [dpST tl (V.take q) K])
theorem neg_tell (s : SP) : - (tellV s).k = (invV s).k := by unfold tellV invV; dsimp only; split <;> omega
set_option maxRecDepth 100000 in
set_option maxHeartbeats 2000000 in
theorem rinverse_ok (w : World) (n : Int) (A : Option Addr) (m k : Nat) (L : List SP) (hs : SS w.heap A m k L) (hK : wsum L ≤ 1048576000) (hm : m ≤ 1048576) : Cl Tryz.prog 20 #[.int .i64 n, .slice A m k] w (RetIv w (invO n L) (invErr n L) (wsum L)) := by
  have hlen := hs.s.len
  have hck := fun w1 (hE : Ext w w1) => rcheckS_ok w1 n A m k L (hs.ext hE) hm
  by_cases hfit : FitAll n L
  · unfold invO invErr
    rw [if_pos hfit, if_pos hfit]
    refine enter Tryz.func20 rfl rfl rfl ?_
    have hF := Fr.refl w
    repeat' (first | (refine TL.isOp ?_; first | (refine TL.isCall ?_; refine TL.call rfl rfl ?_; first | (refine (hck _ hF.ext).mono ?_; rintro _ wy ⟨z, err, rfl, hCk, hE⟩; obtain rfl := hCk.err0 hfit; replace hF := hF.exts hE; clear hE hCk; refine Back.mk ?_)) | (refine TL.isBin ?_; refine TL.cmpG rfl rfl rfl rfl (fun hc => ?_) (fun hc => ?_) <;> (try (first | (exfalso; omega) | exact absurd rfl hc))) | (apply TL.ev; (case hd => rfl); (case h => (first | exact ev_simple rfl | (apply Ev.isBin; first | exact ev_arI rfl rfl rfl (by omega)) | exact ev_len rfl)))) | (refine T.is ?_; first | refine T.seq ?_ | refine T.region ?_ | refine T.block ?_ | refine T.cond_f rfl ?_ | refine T.skip ?_) | (refine G.is ?_; first | refine G.next ?_) | refine TL.nil ?_)
    have hI0 : RvS w wy (invL L) (wsum L) (m - m) none 0 := ⟨[], by simp, .inl ⟨by omega, rfl, rfl, by
      rw [Nat.sub_self, List.take_zero]
      exact Fr.addST hF (StT.nil _ (wsum L))⟩⟩
    clear hF
    refine T.loop (α := Nat × Option Addr × Nat) (fun x => [(1, .slice A m k), (8, .slice x.2.1 (m - x.1) x.2.2), (9, .int .i64 ((x.1 : Int) - 1))]) (fun x w' => x.1 ≤ m ∧ RvS w w' (invL L) (wsum L) (m - x.1) x.2.1 x.2.2) (fun x => x.1) (m, none, 0) (by rw [Nat.sub_self]; exact (by repeat (first | exact Sub.nil _ | refine Sub.cons rfl ?_ | refine Sub.cons' rfl (int_congr (by omega)) ?_))) ⟨Nat.le_refl _, hI0⟩ ?_
    clear hI0
    rintro ⟨p, Av, cv⟩ w2 ⟨hp, tl, hT, hS⟩
    dsimp only at hp hT hS ⊢
    rcases Nat.eq_zero_or_pos p with h0 | h0
    · subst h0
      rcases hS with ⟨hq0, rfl, rfl, hF⟩ | ⟨b, zs, rfl, hqc, hzs, hzn, hF⟩
      · repeat' (first | (refine TL.isOp ?_; first | (refine TL.isBin ?_; refine TL.cmpG rfl rfl rfl rfl (fun hc => ?_) (fun hc => ?_) <;> (try (first | (exfalso; omega) | exact absurd rfl hc))) | (apply TL.ev; (case hd => rfl); (case h => (first | exact ev_simple rfl)))) | (refine T.is ?_; first | refine T.seq ?_ | refine T.region ?_ | refine T.cond_f rfl ?_ | refine T.exit ?_ | refine T.ret ?_) | (refine G.is ?_; first | refine G.next ?_ | refine G.blockE ?_ | refine G.thenE ?_) | refine TL.nil ?_)
        have hst := Fr.st hF (T := tl) (V := (invL L).take (m - 0)) (K := wsum L) (by repeat (first | exact memH | apply memT))
        rw [Nat.sub_zero, List.take_of_length_le (by rw [invL_len]; omega)] at hst
        obtain rfl : tl = [] := List.eq_nil_of_length_eq_zero (by omega)
        exact G.ret2 rfl rfl rfl ⟨_, _, _, [], rfl, ⟨by simp; omega, by omega, by omega, fun x hx => (by cases hx), .inl hq0⟩, hst, hF.ext, .inl hq0⟩
      · repeat' (first | (refine TL.isOp ?_; first | (refine TL.isBin ?_; refine TL.cmpG rfl rfl rfl rfl (fun hc => ?_) (fun hc => ?_) <;> (try (first | (exfalso; omega) | exact absurd rfl hc))) | (apply TL.ev; (case hd => rfl); (case h => (first | exact ev_simple rfl)))) | (refine T.is ?_; first | refine T.seq ?_ | refine T.region ?_ | refine T.cond_f rfl ?_ | refine T.exit ?_ | refine T.ret ?_) | (refine G.is ?_; first | refine G.next ?_ | refine G.blockE ?_ | refine G.thenE ?_) | refine TL.nil ?_)
        have hst := Fr.st hF (T := tl) (V := (invL L).take (m - 0)) (K := wsum L) (by repeat (first | exact memH | apply memT))
        rw [Nat.sub_zero, List.take_of_length_le (by rw [invL_len]; omega)] at hst
        have hb := (hF.lo (b := b) (by repeat (first | exact InV.head | apply InV.tail))).resolve_right id
        exact G.ret2 rfl rfl rfl ⟨_, _, _, tl, rfl, vr_sm (by omega) (fun _ _ => rfl) (hF.var .head) hT hqc (hF.var .head).lt, hst, hF.ext, .inr ⟨b, rfl, hb⟩⟩
    · obtain ⟨p, rfl⟩ : ∃ p', p = p' + 1 := ⟨p - 1, by omega⟩
      have hpn : p < m := by clear hS; omega
      have hy : L[p]? = some (L.getD p default) := by simp [List.getD, show p < L.length by omega]
      have hmem := List.mem_of_getElem? hy
      generalize L.getD p default = y at *
      have hwy := wsum_mem hmem
      have hfy := hfit.2 y hmem
      have hVy := invL_at hy
      have hntl := neg_tell y
      rw [hlen] at hVy
      have hsm : m - (p + 1) + 1 = m - p := by clear hS; omega
      rcases hS with ⟨hq0, rfl, rfl, hF⟩ | ⟨b, zs, rfl, hqc, hzs, hzn, hF⟩
      · refine T.sub (σ' := [(1, .slice A m k), (8, .slice none 0 0), (9, .int .i64 (p : Int))]) (by rw [hq0]; exact (by repeat (first | exact Sub.nil _ | refine Sub.cons rfl ?_ | refine Sub.cons' rfl (int_congr (by omega)) ?_))) ?_
        repeat' (first | (refine TL.isOp ?_; first | (refine TL.isCall ?_; refine TL.call rfl rfl ?_; first | (refine (rclean_ok _ y n.toNat (wsum L) hfy ((hs.g y hmem).ext hF.ext) (by omega) (by omega)).mono ?_; rintro _ w1 ⟨⟨yk, yi, yj, ⟨yn, ⟨yA, ym, yc, yl⟩⟩⟩, rfl, hu, hE⟩; have hun := hu.n; dsimp only at hun; replace hF := Fr.addSV (hF.exts hE) hu; clear hE; refine Back.mk ?_) | (refine (r5neg_ok _ ⟨yn, ⟨yA, ym, yc, yl⟩⟩ (Fr.sv hF (by repeat (first | exact memH | apply memT))).k.g (by dsimp only; omega)).mono ?_; rintro _ w1 ⟨⟨un, ⟨uA, um, uc, ul⟩⟩, rfl, hLu, hE, hKu⟩; dsimp only at hKu; rw [hu.k.val, hntl] at hLu; replace hF := Fr.addLI (hF.exts hE) hLu; clear hE hLu; refine Back.mk ?_)) | (refine TL.isBin ?_; refine TL.cmpG rfl rfl rfl rfl (fun hc => ?_) (fun hc => ?_) <;> (try (first | (exfalso; omega) | exact absurd rfl hc))) | (apply TL.ev; (case hd => rfl); (case h => (first | exact ev_simple rfl | (apply Ev.isBin; first | exact ev_arI rfl rfl rfl (by omega)) | (apply Ev.isLoad; first | exact ev_loadAFr hF rfl (by refine ⟨?_, ?_⟩; (focus (repeat (first | exact InV.head | apply InV.tail))); rfl) | exact ev_loadM rfl (hs.s.ext hF.ext) hy) | exact ev_fieldAddr rfl | exact ev_indexM rfl rfl hpn (hs.s.ext hF.ext).some))) | (refine TL.storeAFr hF rfl rfl rfl rfl (by refine ⟨?_, ?_⟩; (focus (repeat (first | apply SetV.head | apply SetV.tail))); rfl) rfl ?_; clear hF; intro ws hF) | (refine TL.allocFr hF (d := 10) rfl rfl ?_; clear hF; intro w10 b10 hF) | (refine TL.buildXs hF (f := spc) (d := 37) [⟨yk, yi, yj, ⟨un, ⟨uA, um, uc, ul⟩⟩⟩] [.tmp 36] rfl rfl rfl rfl (by intro v hv; rw [List.mem_singleton] at hv; subst hv; rfl) rfl rfl (by omega) (by omega) ?_; clear hF; intro w37 b37 hF hEn hbn hSn) | (refine TL.appendNewFr hF spc rfl rfl rfl rfl hSn (fun _ => rfl) rfl rfl (by omega) (fun h0 => absurd h0 (by omega)) ?_; clear hF hSn; intro _ wn bN cN zN hcN hzN hzNn hF)) | (refine T.is ?_; first | refine T.seq ?_ | refine T.region ?_ | refine T.block ?_ | refine T.cond_t rfl ?_ | refine T.skip ?_) | (refine G.is ?_; first | refine G.next ?_ | refine G.blockN ?_) | refine TL.nil ?_)
        obtain rfl : tl = [] := List.eq_nil_of_length_eq_zero (by omega)
        have hst := (Fr.st hF (T := []) (V := (invL L).take (m - (p + 1))) (K := wsum L) (by repeat (first | exact memH | apply memT))).snoc hVy (t := ⟨yk, yi, yj, ⟨un, ⟨uA, um, uc, ul⟩⟩⟩) ⟨hu.kind, hu.i, hu.j, Fr.li hF (by repeat (first | exact memH | apply memT)), by dsimp only; omega⟩
        rw [hsm] at hst
        rw [show m - p = 1 by omega] at hst
        refine G.again (p, some ⟨bN, 0, none⟩, cN) (by dsimp only; rw [show m - p = 1 by omega]; exact (by repeat (first | exact Sub.nil _ | refine Sub.cons rfl ?_ | refine Sub.cons' rfl (int_congr (by omega)) ?_))) ⟨by dsimp only; omega, [⟨yk, yi, yj, ⟨un, ⟨uA, um, uc, ul⟩⟩⟩], by dsimp only; simp; omega, .inr ⟨bN, zN, rfl, by dsimp only; omega, by dsimp only; rw [show m - p = 1 by omega]; exact hzN, hzNn, ?_⟩⟩ (by dsimp only; omega)
        dsimp only
        rw [show m - p = 1 by omega]
        exact (Fr.addST hF hst).weak (.cons_cons _ (List.nil_sublist _)) (allH (by repeat (first | exact memH | apply memT)) allN)
      · refine T.sub (σ' := [(1, .slice A m k), (8, .slice (some ⟨b, 0, none⟩) (m - (p + 1)) cv), (9, .int .i64 (p : Int))]) (by repeat (first | exact Sub.nil _ | refine Sub.cons rfl ?_ | refine Sub.cons' rfl (int_congr (by omega)) ?_)) ?_
        have hz2 : m - p ≤ cv → (zs.drop (1 * 5)).length = (cv - (m - p)) * 5 := by rw [List.length_drop]; omega
        repeat' (first | (refine TL.isOp ?_; first | (refine TL.isCall ?_; refine TL.call rfl rfl ?_; first | (refine (rclean_ok _ y n.toNat (wsum L) hfy ((hs.g y hmem).ext hF.ext) (by omega) (by omega)).mono ?_; rintro _ w1 ⟨⟨yk, yi, yj, ⟨yn, ⟨yA, ym, yc, yl⟩⟩⟩, rfl, hu, hE⟩; have hun := hu.n; dsimp only at hun; replace hF := Fr.addSV (hF.exts hE) hu; clear hE; refine Back.mk ?_) | (refine (r5neg_ok _ ⟨yn, ⟨yA, ym, yc, yl⟩⟩ (Fr.sv hF (by repeat (first | exact memH | apply memT))).k.g (by dsimp only; omega)).mono ?_; rintro _ w1 ⟨⟨un, ⟨uA, um, uc, ul⟩⟩, rfl, hLu, hE, hKu⟩; dsimp only at hKu; rw [hu.k.val, hntl] at hLu; replace hF := Fr.addLI (hF.exts hE) hLu; clear hE hLu; refine Back.mk ?_)) | (refine TL.isBin ?_; refine TL.cmpG rfl rfl rfl rfl (fun hc => ?_) (fun hc => ?_) <;> (try (first | (exfalso; omega) | exact absurd rfl hc))) | (apply TL.ev; (case hd => rfl); (case h => (first | exact ev_simple rfl | (apply Ev.isBin; first | exact ev_arI rfl rfl rfl (by omega)) | (apply Ev.isLoad; first | exact ev_loadAFr hF rfl (by refine ⟨?_, ?_⟩; (focus (repeat (first | exact InV.head | apply InV.tail))); rfl) | exact ev_loadM rfl (hs.s.ext hF.ext) hy) | exact ev_fieldAddr rfl | exact ev_indexM rfl rfl hpn (hs.s.ext hF.ext).some))) | (refine TL.storeAFr hF rfl rfl rfl rfl (by refine ⟨?_, ?_⟩; (focus (repeat (first | apply SetV.head | apply SetV.tail))); rfl) rfl ?_; clear hF; intro ws hF) | (refine TL.allocFr hF (d := 10) rfl rfl ?_; clear hF; intro w10 b10 hF) | (refine TL.buildXs hF (f := spc) (d := 37) [⟨yk, yi, yj, ⟨un, ⟨uA, um, uc, ul⟩⟩⟩] [.tmp 36] rfl rfl rfl rfl (by intro v hv; rw [List.mem_singleton] at hv; subst hv; rfl) rfl rfl (by omega) (by omega) ?_; clear hF; intro w37 b37 hF hEn hbn hSn) | (refine TL.appendAtFr (f := spc) (l := tl) (zs := zs) hF rfl rfl rfl rfl hSn (fun _ => rfl) (fun _ => rfl) rfl rfl hT hzs hqc (spc_all tl zs hzn) (by omega) (by repeat (first | apply SetV.head | apply SetV.tail)) (fun hle wn hFn => ?_) (fun hgr wn bN cN zN hcN hzN hzNn hFn => ?_) <;> (clear hF hSn hEn hbn; have hF := hFn; clear hFn))) | (refine T.is ?_; first | refine T.seq ?_ | refine T.region ?_ | refine T.block ?_ | refine T.cond_t rfl ?_ | refine T.skip ?_) | (refine G.is ?_; first | refine G.next ?_ | refine G.blockN ?_) | refine TL.nil ?_)
        · have hst := (Fr.st hF (T := tl) (V := (invL L).take (m - (p + 1))) (K := wsum L) (by repeat (first | exact memH | apply memT))).snoc hVy (t := ⟨yk, yi, yj, ⟨un, ⟨uA, um, uc, ul⟩⟩⟩) ⟨hu.kind, hu.i, hu.j, Fr.li hF (by repeat (first | exact memH | apply memT)), by dsimp only; omega⟩
          rw [hsm] at hst
          refine G.again (p, some ⟨b, 0, none⟩, cv) (by dsimp only; rw [← hsm]; exact (by repeat (first | exact Sub.nil _ | refine Sub.cons rfl ?_ | refine Sub.cons' rfl (int_congr (by omega)) ?_))) ⟨by dsimp only; omega, tl ++ [⟨yk, yi, yj, ⟨un, ⟨uA, um, uc, ul⟩⟩⟩], by dsimp only; simp [hT]; omega, .inr ⟨b, zs.drop (1 * 5), rfl, by dsimp only; omega, hz2 (by omega), drop_noV hzn _, ?_⟩⟩ (by dsimp only; omega)
          exact (Fr.addST hF hst).weak (.cons _ (.refl _)) (allH (by repeat (first | exact memH | apply memT)) allN)
        · have hst := (Fr.st hF (T := tl) (V := (invL L).take (m - (p + 1))) (K := wsum L) (by repeat (first | exact memH | apply memT))).snoc hVy (t := ⟨yk, yi, yj, ⟨un, ⟨uA, um, uc, ul⟩⟩⟩) ⟨hu.kind, hu.i, hu.j, Fr.li hF (by repeat (first | exact memH | apply memT)), by dsimp only; omega⟩
          rw [hsm] at hst
          refine G.again (p, some ⟨bN, 0, none⟩, cN) (by dsimp only; rw [← hsm]; exact (by repeat (first | exact Sub.nil _ | refine Sub.cons rfl ?_ | refine Sub.cons' rfl (int_congr (by omega)) ?_))) ⟨by dsimp only; omega, tl ++ [⟨yk, yi, yj, ⟨un, ⟨uA, um, uc, ul⟩⟩⟩], by dsimp only; simp [hT]; omega, .inr ⟨bN, zN, rfl, by dsimp only; omega, by dsimp only; omega, hzNn, ?_⟩⟩ (by dsimp only; omega)
          exact (Fr.addST hF hst).weak (.cons_cons _ (List.nil_sublist _)) (allH (by repeat (first | exact memH | apply memT)) allN)
  · unfold invO invErr
    rw [if_neg hfit, if_neg hfit]
    refine enter Tryz.func20 rfl rfl rfl ?_
    have hF := Fr.refl w
    repeat' (first | (refine TL.isOp ?_; first | (refine TL.isCall ?_; refine TL.call rfl rfl ?_; first | (refine (hck _ hF.ext).mono ?_; rintro _ wy ⟨z, err, rfl, hCk, hE⟩; obtain rfl := hCk.err3 hfit; replace hF := hF.exts hE; clear hE; refine Back.mk ?_)) | (refine TL.isBin ?_; refine TL.cmpG rfl rfl rfl rfl (fun hc => ?_) (fun hc => ?_) <;> (try (first | (exfalso; omega) | exact absurd rfl hc))) | (apply TL.ev; (case hd => rfl); (case h => (first | exact ev_simple rfl)))) | (refine T.is ?_; first | refine T.seq ?_ | refine T.region ?_ | refine T.cond_t rfl ?_ | refine T.ret ?_) | (refine G.is ?_; first | refine G.next ?_ | refine G.thenR ?_) | refine TL.nil ?_)
    exact G.ret2 rfl rfl rfl (RetIv.empty _ hF.ext)
set_option maxRecDepth 100000 in
set_option maxHeartbeats 2000000 in
theorem likeSteps_t (w : World) (A A' : Option Addr) (m k k' K K' : Nat) (tl tl' : List SP) (V : List SV) (hs : Sm 5 spc w.heap w.heap.size A m k tl) (hs' : Sm 5 spc w.heap w.heap.size A' m k' tl') (ht : StT w.heap tl V K) (ht' : StT w.heap tl' V K') (hm : m ≤ 1048576) (hK : K ≤ 1099511627776) (hK' : K' ≤ 1099511627776) :
    Cl Tryz.prog 23 #[.slice A m k, .slice A' m k'] w (YesM w) := by
  have hlen := hs.len
  have hlen' := hs'.len
  have hV := ht.len
  refine enter Tryz.func23 rfl rfl rfl ?_
  have hF := Fr.refl w
  repeat' (first | (refine TL.isOp ?_; first | (refine TL.isBin ?_; refine TL.cmpG rfl rfl rfl rfl (fun hc => ?_) (fun hc => ?_) <;> (try (first | (exfalso; omega) | exact absurd rfl hc))) | (apply TL.ev; (case hd => rfl); (case h => (first | exact ev_simple rfl | exact ev_len rfl)))) | (refine T.is ?_; first | refine T.seq ?_ | refine T.region ?_ | refine T.block ?_ | refine T.cond_f rfl ?_ | refine T.skip ?_) | (refine G.is ?_; first | refine G.next ?_) | refine TL.nil ?_)
  refine T.loop (α := Nat) (fun i => [(0, .slice A m k), (1, .slice A' m k'), (5, .int .i64 (i : Int))]) (fun i w' => i ≤ m ∧ Fr w w' [] []) (fun i => m - i) 0 (by repeat (first | exact Sub.nil _ | refine Sub.cons rfl ?_ | refine Sub.cons' rfl (int_congr (by omega)) ?_)) ⟨Nat.zero_le _, hF⟩ ?_
  clear hF
  rintro i w2 ⟨hi, hF⟩
  rcases Nat.lt_or_ge i m with hin | hin
  · have hy : tl[i]? = some (tl.getD i default) := by simp [List.getD, show i < tl.length by omega]
    have hy' : tl'[i]? = some (tl'.getD i default) := by simp [List.getD, show i < tl'.length by omega]
    have hv : V[i]? = some (V[i]'(by omega)) := List.getElem?_eq_getElem (by omega)
    generalize tl.getD i default = t at *
    generalize tl'.getD i default = t' at *
    obtain ⟨v, ev⟩ : ∃ v, V[i]'(by omega) = v := ⟨_, rfl⟩
    rw [ev] at hv
    have g1 := ht.g i _ _ hy hv
    have g2 := ht'.g i _ _ hy' hv
    obtain ⟨a1, a2, a3, ⟨an, ⟨aA, am, ac, al⟩⟩⟩ := t
    obtain ⟨c1, c2, c3, ⟨cn, ⟨cA, cm, cc, cl⟩⟩⟩ := t'
    obtain ⟨e1, e2, e3, e4, e5⟩ := g1
    obtain ⟨f1, f2, f3, f4, f5⟩ := g2
    dsimp only at e1 e2 e3 e4 e5 f1 f2 f3 f4 f5
    obtain rfl := f1.trans e1.symm
    obtain rfl := f2.trans e2.symm
    obtain rfl := f3.trans e3.symm
    have hA : A.isSome = true := hs.some.resolve_left (by omega)
    have hA' : A'.isSome = true := hs'.some.resolve_left (by omega)
    have hlk := fun w1 (hE : Ext w w1) => like_t w1 ⟨an, ⟨aA, am, ac, al⟩⟩ ⟨cn, ⟨cA, cm, cc, cl⟩⟩ (e4.ext hE).g (f4.ext hE).g (e4.d.trans f4.d.symm) (e4.e.trans f4.e.symm) (by dsimp only; omega) (by dsimp only; omega)
    repeat' (first | (refine TL.isOp ?_; first | (refine TL.isG ?_; first | refine TL.grun rfl rfl rfl ?_) | (refine TL.isCall ?_; refine TL.call rfl rfl ?_; first | (refine (hlk _ hF.ext).mono ?_; rintro _ wa ⟨rfl, hE⟩; replace hF := hF.exts hE; clear hE; refine Back.mk ?_)) | (refine TL.isBin ?_; refine TL.cmpG rfl rfl rfl rfl (fun hc => ?_) (fun hc => ?_) <;> (try (first | (exfalso; omega) | exact absurd rfl hc))) | (apply TL.ev; (case hd => rfl); (case h => (first | exact ev_simple rfl | (apply Ev.isBin; first | exact ev_arN rfl rfl rfl (by omega)) | exact ev_len rfl)))) | (refine TF.is ?_; first | refine TF.nil ?_ | refine TF.e rfl ?_ | (refine TF.pick rfl ?_; first | (refine TFo.cmpG rfl rfl rfl rfl (fun hc => ?_) (fun hc => ?_) <;> (try (first | (exfalso; omega) | exact absurd rfl hc))) | (refine TFo.cmpGg rfl rfl rfl rfl rfl rfl rfl (fun hc => ?_) (fun hc => ?_) <;> (try (first | (exfalso; omega) | exact absurd rfl hc))) | (apply TFo.ev; (case hd => rfl); (case h => (intro wh hF; first | exact ev_simple rfl | (apply Ev.isLoad; first | exact ev_loadMF rfl (hs.ext hF.ext) hy rfl | exact ev_loadMF rfl (hs'.ext hF.ext) hy' rfl) | exact ev_indexM rfl rfl hin (hs.ext hF.ext).some | exact ev_indexM rfl rfl hin (hs'.ext hF.ext).some | exact ev_fieldAddrE rfl (by assumption)))) | (apply TFo.evg rfl rfl rfl; (case hd => rfl); (case h => (intro wh hF; first | exact ev_simple rfl | (apply Ev.isLoad; first | exact ev_loadMF rfl (hs.ext hF.ext) hy rfl | exact ev_loadMF rfl (hs'.ext hF.ext) hy' rfl | exact ev_loadMS rfl (hs.ext hF.ext) hy rfl | exact ev_loadMS rfl (hs'.ext hF.ext) hy' rfl) | exact ev_indexM rfl rfl hin (hs.ext hF.ext).some | exact ev_indexM rfl rfl hin (hs'.ext hF.ext).some | exact ev_fieldAddrE rfl (by assumption)))))) | (refine T.is ?_; first | refine T.seq ?_ | refine T.region ?_ | refine T.block ?_ | refine T.cond_t rfl ?_ | refine T.cond_f rfl ?_ | refine T.skip ?_ | (refine T.regionFr hF 6 51 (.s 0 (.s 1 (.s 2 (.s 3 (.s 4 (.s 5 (.s 6 (.s 7 (.s 8 (.s 9 (.s 10 (.s 11 (.s 12 (.s 13 (.s 14 (.s 15 (.s 16 (.s 17 (.s 18 (.s 19 (.s 20 (.s 21 (.s 22 (.s 23 (.s 24 (.s 25 (.s 26 (.s 27 (.s 28 (.s 29 (.s 30 (.s 31 (.s 32 (.s 33 (.s 34 (.s 35 (.s 36 (.s 37 (.s 38 (.s 39 (.s 40 (.s 41 (.s 42 (.s 43 (.s 44 (.s 45 (.s 46 (.s 47 (.e 48 (.s 49 (.s 50 .nil))))))))))))))))))))))))))))))))))))))))))))))))))) mixed (by kernel_rfl) ?_; clear hF; intro wr hF)) | (refine G.is ?_; first | refine G.next ?_ | refine G.blockN ?_ | refine G.only ?_ | refine G.tree rfl (by first | exact hF | exact hF.weak (by repeat (first | exact List.Sublist.refl _ | apply List.Sublist.cons)) (by repeat (first | exact allR | apply allT)) | exact hF.weak (by repeat (first | exact List.Sublist.refl _ | apply List.Sublist.cons)) (by repeat (first | exact allN | refine allH (by repeat (first | exact memH | apply memT)) ?_))) ?_) | refine TL.nil ?_)
    exact G.again (i + 1) (by repeat (first | exact Sub.nil _ | refine Sub.cons rfl ?_ | refine Sub.cons' rfl (int_congr (by omega)) ?_)) ⟨by omega, hF.weak (List.nil_sublist _) allN⟩ (by omega)
  · obtain rfl : i = m := by omega
    repeat' (first | (refine TL.isOp ?_; first | (refine TL.isBin ?_; refine TL.cmpG rfl rfl rfl rfl (fun hc => ?_) (fun hc => ?_) <;> (try (first | (exfalso; omega) | exact absurd rfl hc))) | (apply TL.ev; (case hd => rfl); (case h => (first | exact ev_simple rfl | exact ev_len rfl)))) | (refine T.is ?_; first | refine T.seq ?_ | refine T.region ?_ | refine T.cond_f rfl ?_ | refine T.exit ?_ | refine T.ret ?_) | (refine G.is ?_; first | refine G.next ?_ | refine G.blockE ?_ | refine G.thenE ?_) | refine TL.nil ?_)
    exact G.ret1 rfl rfl ⟨rfl, hF.ext⟩
end Go.Proofs.YtdhmhjbmkimplaaGreat
