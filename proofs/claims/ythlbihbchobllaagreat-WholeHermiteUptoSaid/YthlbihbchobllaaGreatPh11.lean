/- The ladder: settle. The ladder: put. The ladder's plain law: what Reduce keeps; its numbers. The ladder: Reduce. The engine: append to lists of any kind in frames; literals of one value; functions as values; returns in memory behind a range over a function. hnf.lines (out of StpA, StpC, StpD: the rows of a matrix, each in a block of its own). -/
import Derived.Test.YthlbihbchobllaaGreatPh10
import Derived.Test.YthlbihbchobllaaGreatPh8
import Derived.Test.YthlbihbchobllaaGreatPh7
set_option linter.unusedVariables false
set_option linter.unusedSimpArgs false
namespace Go.Eng
open Go Go.RowKit
section
variable {P : Program} {N : Fm} {Q : Exit → Act → World → Prop} {σ : Store} {S : Nat → Prop} {w0 w : World} {L : List VB} {D : List DP} {ops : Array Oper} {d : Nat} {t : TypeId} {pos : String} {af : Array Edge} {rest : List Oper}
def intv (x : Nat) : Value := .int .i64 (x : Int)
/-- a new list of ints, known whole -/
theorem TL.makeNFr (hF : Fr w0 w L D S) {x y : Operand} {ty e : TypeId} [hT : USlice P ty e] {b1 : Nat} [hS : USize P e (.int .i64 0) 1 b1] {k k' : IntKind} {z1 z2 : Int} {n c : Nat} [e1 : IsN z1 n] [e2 : IsN z2 c]
    (hx : look σ x = some (.int k z1)) (hy : look σ y = some (.int k' z2)) (hd : Nat.blt d N.n = true) (hn : n ≤ c) (hc : b1 * c ≤ 281474976710656 ∧ c ≤ 9223372036854775807)
    (K : ∀ w' b, Fr w0 w' (⟨b, e, (List.replicate c 0).map intv⟩ :: L) D S → TL P N .seq ops Q rest ((d, .slice (some ⟨b, 0, none⟩) n c) :: σ) w') :
    TL P N .seq ops Q (⟨some d, .makeSlice ty x y, t, pos, af, none⟩ :: rest) σ w :=
  TL.make intv 0 rfl rfl hx hy hd hn hc fun w' b hb hB hE _ => K w' b (hF.new hb (by unfold Bk at hB; unfold Vr; exact hB) hE)
end
theorem ev_intAt {P : Program} {σ : Store} {d : Option Tmp} {t : TypeId} {pos : String} {af : Array Edge} {gd : Option (Nat × Bool)} {S : Nat → Prop} {w0 w : World} {L : List VB} {D : List DP} (hF : Fr w0 w L D S) {x : Operand} {ty e : TypeId} [hO : UOne P ty] {b i v : Nat} {ls : List Nat} (hx : look σ x = some (.pointer (elemA (some ⟨b, 0, none⟩) i))) (hl : ls[i]? = some v) (hV : InV L b e (ls.map intv)) : Ev P σ w.heap ⟨d, .load ty x, t, pos, af, gd⟩ (.int .i64 (v : Int)) := by
  refine ev_loadV (b := b) (o := i) (by rw [hx]; simp [elemA, add_mk]) (hF.var hV) ?_
  rw [nthV_eq, List.getElem?_map, hl]; rfl
theorem intv_no (ls : List Nat) : (ls.map intv).all noU64 = true := by
  rw [List.all_eq_true]
  intro v hv
  obtain ⟨x, _, rfl⟩ := List.mem_map.1 hv
  rfl
end Go.Eng
namespace Go.Proofs.YthlbihbchobllaaGreat
open Go Go.Eng Go.Proofs Go.NatM Go.RowKit Go.Det

def fsQ (Q : List Sd) : List (Bool × Mx) := Q.map (fun s => (s.back, s.F))
theorem OpRel.fs {n : Nat} {o : Opn} {Q Q' : List Sd} (h : OpRel n o Q Q') : fsQ Q' = (fsQ Q).map (fun x => (x.1, o.on x.1 x.2)) := by
  unfold fsQ
  apply List.ext_getElem?
  intro p
  rw [List.getElem?_map, List.getElem?_map, List.getElem?_map]
  cases hp : Q[p]? with
  | none => rw [List.getElem?_eq_none (by rw [h.1]; exact List.getElem?_eq_none_iff.1 hp)]; rfl
  | some s =>
    obtain ⟨s', h1, R', h2, _⟩ := h.2 p s hp
    rw [h1, h2]; rfl
def hd0 (fs : List (Bool × Mx)) : Mx := (fs.headD (false, fun _ _ => 0)).2
/-- numbers of all sides, as far as those of the first are within X -/
def BdI (n K r : Nat) (X : Int) (I : List (Bool × Mx) → Prop) : Prop := ∀ fs, I fs → (∀ p c, p < r → Bd X (hd0 fs p c)) → ∀ x ∈ fs, BdW n K x.2
theorem BdI.op {n K r : Nat} {X : Int} {I : List (Bool × Mx) → Prop} {o : Opn} {s0 : Sd} {Qr : List Sd} (h : BdI n K r X I) (hI : Inv r I) (ho : o.ok r) (h0 : I (fsQ (s0 :: Qr))) (hb : s0.back = false) (hX : ∀ p c, p < r → Bd X (o.on false s0.F p c)) : ∀ s ∈ s0 :: Qr, BdW n K (o.on s.back s.F) := fun s hs => by
  refine h _ (hI o _ ho h0) (fun p c hp => ?_) (s.back, o.on s.back s.F) (List.mem_map.2 ⟨(s.back, s.F), List.mem_map.2 ⟨s, hs, rfl⟩, rfl⟩)
  show Bd X (o.on s0.back s0.F p c)
  rw [hb]; exact hX p c hp
theorem lk_row {H : Array Obj} {n K i : Nat} {s0 : Sd} {Qr : List Sd} {x : RQ} (hd : ∀ s ∈ s0 :: Qr, SdK n K s H) (hi : i < n) (hx : s0.R[i]? = some x) : LsK s0.c x.l (s0.F i) K H := by
  have h := hd s0 (List.mem_cons_self ..) i hi
  rwa [show s0.R.getD i default = x by simp [List.getD, hx]] at h
theorem lead_uniq {Z : Nat → Int} {n i j : Nat} (h : LeadOk Z n j) (h0 : ∀ c, c < i → Z c = 0) (h1 : Z i ≠ 0) (hi : i < n) : j = i := by
  obtain ⟨a, b, c⟩ := h
  rcases Nat.lt_trichotomy j i with h2 | h2 | h2
  · exact absurd (h0 j h2) (c (by omega))
  · exact h2
  · exact absurd (b i h2) h1
def pz : Nat → Int
  | 0 => -1
  | i + 1 => (i : Int)
structure Ses where
  k : Nat
  s : Sd
  Q : List Sd
set_option maxRecDepth 100000 in
set_option maxHeartbeats 16000000 in
theorem lsettle_ok (w : World) (lb sb n m K r : Nat) (t0 : Ss) (Tr : List Ss) (s0 : Sd) (Qr : List Sd) (S : Nat → Prop) (J : Nat → Nat) (B M : Int) (I : List (Bool × Mx) → Prop)
    (hS : Stt n t0 Tr s0 Qr) (hbk : t0.back = false) (hm : (t0 :: Tr).length ≤ 1048576) (hr : r ≤ n) (hn : n ≤ 64) (hK : K ≤ 4398046511000) (hI : Inv r I) (hI0 : I (fsQ (s0 :: Qr)))
    (hE : Ech r s0.F J) (hJ : ∀ i, i < r → J i < t0.c) (hMn : Mn r s0.F B) (hBd : ∀ p c, p < r → Bd M (s0.F p c)) (hM : 0 ≤ M) (hB : 0 ≤ B) (hX : BdI n K r (gr (r * (B * B)) M r) I)
    (hF : Fr w w (sdsL (s0 :: Qr)) (dpLd lb sb t0.g n m (t0 :: Tr) :: dpSds n K (s0 :: Qr) :: []) S) :
    Cl Tryz.prog 64 #[.pointer (some ⟨lb, 0, none⟩), .int .i64 (r : Int)] w (RetQ w n K (s0 :: Qr) (fun Q' => ∃ s1 Qr1, Q' = s1 :: Qr1 ∧ Stt n t0 Tr s1 Qr1 ∧ I (fsQ Q') ∧ Ech r s1.F J ∧ RedA r s1.F J) S) := by
  have hg := hS.g
  have hc2 : s0.c ≤ 128 := (hS.shp s0 (List.mem_cons_self ..)).c2
  refine enter Tryz.func64 rfl rfl rfl ?_
  repeat' (first | (refine TL.isOp ?_; first | (apply TL.ev; (case hd => rfl); (case h => (first | exact ev_simple rfl | exact ev_len rfl))) | (refine TL.makeNFr hF (d := 13) rfl rfl rfl (Nat.le_refl _) (by omega) ?_; clear hF; intro w13 b13 hF)) | (refine T.is ?_; first | refine T.seq ?_ | refine T.region ?_ | refine T.block ?_) | (refine G.is ?_; first | refine G.next ?_) | refine TL.nil ?_)
  refine T.loop (α := Nat × List Nat) (fun z => [(0, .pointer (some ⟨lb, 0, none⟩)), (1, .int .i64 (r : Int)), (4, .slice (some ⟨b13, 0, none⟩) r r), (14, .slice (some ⟨b13, 0, none⟩) r r), (15, .int .i64 (r : Int)), (16, .int .i64 (z.1 : Int))])
    (fun z w' => z.1 ≤ r ∧ z.2.length = r ∧ (∀ p, p < z.1 → z.2[p]? = some (J p)) ∧ Fr w w' (⟨b13, 3, z.2.map intv⟩ :: sdsL (s0 :: Qr)) [dpLd lb sb t0.g n m (t0 :: Tr), dpSds n K (s0 :: Qr)] S)
    (fun z => r - z.1) (0, List.replicate r 0) (by repeat (first | exact Sub.nil _ | refine Sub.cons rfl ?_ | refine Sub.cons' rfl (int_congr (by omega)) ?_)) ⟨Nat.zero_le _, List.length_replicate .., fun p hp => absurd hp (Nat.not_lt_zero _), hF.weak (.refl _) (allH (by repeat (first | exact memH | apply memT)) (allH (by repeat (first | exact memH | apply memT)) allN))⟩ ?_
  clear hF
  rintro ⟨i, ls⟩ w2 ⟨hi, hls, hJs, hF⟩
  dsimp only at hi hls hJs hF ⊢
  rcases Nat.lt_or_ge i r with hir | hir
  · have hin : i < n := by omega
    obtain ⟨x, hx⟩ := sd_get (hS.shp s0 (List.mem_cons_self ..)) hin
    have hcx := (hS.shp s0 (List.mem_cons_self ..)).c x (List.mem_of_getElem? hx)
    have hun := fun j (hj : LeadOk (s0.F i) s0.c j) => lead_uniq hj (hE.zero i · hir) (by have := hE.pos i hir; omega) (by rw [hS.c]; exact hJ i hir)
    repeat' (first | (refine TL.isOp ?_; first | (refine TL.isCall ?_; refine TL.call rfl rfl ?_; first | (refine (llead_ok _ _ _ _ _ K x.l (s0.F i) (rowq_sm (r := x) hF (by repeat (first | exact InV.qr hx | apply InV.tail))) hcx (.inr rfl) (lk_row (Fr.sds hF (by repeat (first | exact memH | apply memT))) hin hx) (by omega) hc2).mono ?_; rintro _ w3 ⟨j, rfl, hj, hE3⟩; obtain rfl := hun j hj; replace hF := hF.exts hE3; clear hE3 hj; refine Back.mk ?_)) | (refine TL.isBin ?_; refine TL.cmpG rfl rfl rfl rfl (fun hc => ?_) (fun hc => ?_) <;> (try (first | (exfalso; omega) | exact absurd rfl hc))) | (apply TL.ev; (case hd => rfl); (case h => (first | exact ev_simple rfl | (apply Ev.isBin; first | exact ev_arN rfl rfl rfl (by omega)) | (apply Ev.isLoad; first | exact ev_loadV rfl (Fr.ld hF (by repeat (first | exact memH | apply memT))).ld rfl) | exact ev_fieldAddr rfl | exact ev_nilCheck rfl | exact ev_indexN rfl rfl hir (.inr rfl) | exact ev_indexN rfl rfl hin (.inr rfl) | exact ev_rowq hF rfl hx (by repeat (first | exact InV.q0 hg | apply InV.tail))))) | (refine TL.storeRow hF (i := i) (vs := ls.map intv) (v := .int .i64 ((J i : Nat) : Int)) rfl rfl rfl rfl (by rw [List.length_map, hls]; exact hir) (intv_no ls) .head ?_; clear hF; intro ws hF)) | (refine T.is ?_; first | refine T.seq ?_ | refine T.region ?_ | refine T.block ?_ | refine T.cond_t rfl ?_ | refine T.skip ?_) | (refine G.is ?_; first | refine G.next ?_ | refine G.blockN ?_) | refine TL.nil ?_)
    refine G.again (i + 1, ls.set i (J i)) (by repeat (first | exact Sub.nil _ | refine Sub.cons rfl ?_ | refine Sub.cons' rfl (int_congr (by omega)) ?_)) ⟨hir, by rw [List.length_set]; exact hls, fun p hp => ?_, ?_⟩ (by dsimp only; omega)
    · by_cases e : p = i
      · subst e; simp [hls, hir]
      · rw [List.getElem?_set_ne (fun h => e h.symm)]; exact hJs p (by omega)
    · have e : (ls.map intv).set i (.int .i64 ((J i : Nat) : Int)) = (ls.set i (J i)).map intv := by rw [List.map_set]; rfl
      rw [e] at hF
      exact hF
  · obtain rfl : i = r := by omega
    have hz : ∀ k : Nat, (k : Int) - 1 = pz k := fun k => by cases k <;> simp [pz] <;> omega
    have hJl : ∀ p, p < i → ls[p]? = some (J p) := hJs
    repeat' (first | (refine TL.isOp ?_; first | (refine TL.isBin ?_; refine TL.cmpG rfl rfl rfl rfl (fun hc => ?_) (fun hc => ?_) <;> (try (first | (exfalso; omega) | exact absurd rfl hc))) | (apply TL.ev; (case hd => rfl); (case h => (first | exact ev_simple rfl | (apply Ev.isBin; first | exact ev_arI rfl rfl rfl (by omega)))))) | (refine T.is ?_; first | refine T.seq ?_ | refine T.region ?_ | refine T.block ?_ | refine T.cond_f rfl ?_ | refine T.exit ?_) | (refine G.is ?_; first | refine G.next ?_ | refine G.blockE ?_ | refine G.thenE ?_) | refine TL.nil ?_)
    rw [hz]
    refine T.loop (α := Ses) (fun z => [(0, .pointer (some ⟨lb, 0, none⟩)), (1, .int .i64 (i : Int)), (4, .slice (some ⟨b13, 0, none⟩) i i), (6, .int .i64 (pz z.k))])
      (fun z w' => z.k ≤ i ∧ Stt n t0 Tr z.s z.Q ∧ I (fsQ (z.s :: z.Q)) ∧ Same (s0 :: Qr) (z.s :: z.Q) ∧ (z.k = 0 → Ech i z.s.F J ∧ RedA i z.s.F J) ∧ (∀ p, z.k = p + 1 → Stl i z.s.F J B M p (p + 1)) ∧ Fr w w' (⟨b13, 3, ls.map intv⟩ :: sdsL (z.s :: z.Q)) [dpLd lb sb t0.g n m (t0 :: Tr), dpSds n K (z.s :: z.Q)] S)
      (fun z => z.k) ⟨i, s0, Qr⟩ (by repeat (first | exact Sub.nil _ | refine Sub.cons rfl ?_ | refine Sub.cons' rfl (int_congr (by omega)) ?_)) ⟨Nat.le_refl _, hS, hI0, .refl _, fun h => ⟨hE, fun p hp => by dsimp only at h; omega⟩, fun p hp => by dsimp only at hp ⊢; subst hp; exact Stl.start hE hMn hBd rfl, hF.weak (.refl _) (allH (by repeat (first | exact memH | apply memT)) (allH (by repeat (first | exact memH | apply memT)) allN))⟩ ?_
    clear hF
    rintro ⟨k, s1, Q1⟩ w3 ⟨hk, hS1, hI1, hSm, h00, hst, hF⟩
    dsimp only at hk hS1 hI1 hSm h00 hst hF ⊢
    rcases k with _ | p
    · dsimp only [pz]
      repeat' (first | (refine TL.isOp ?_; first | (refine TL.isBin ?_; refine TL.cmpG rfl rfl rfl rfl (fun hc => ?_) (fun hc => ?_) <;> (try (first | (exfalso; omega) | exact absurd rfl hc))) | (apply TL.ev; (case hd => rfl); (case h => (first | exact ev_simple rfl)))) | (refine T.is ?_; first | refine T.seq ?_ | refine T.region ?_ | refine T.cond_f rfl ?_ | refine T.exit ?_) | (refine G.is ?_; first | refine G.next ?_ | refine G.blockE ?_ | refine G.thenE ?_) | refine TL.nil ?_)
      exact G.end0 rfl ⟨rfl, s1 :: Q1, ⟨s1, Q1, rfl, hS1, hI1, (h00 rfl).1, (h00 rfl).2⟩, hSm, hF.weak (.cons _ (.refl _)) (allH (by repeat (first | exact memH | apply memT)) allN)⟩
    · dsimp only [pz]
      have hst1 := hst p rfl
      clear h00 hst
      have hpi : p < i := hk
      have hpn : p < n := by omega
      repeat' (first | (refine TL.isOp ?_; first | (refine TL.isBin ?_; refine TL.cmpG rfl rfl rfl rfl (fun hc => ?_) (fun hc => ?_) <;> (try (first | (exfalso; omega) | exact absurd rfl hc))) | (apply TL.ev; (case hd => rfl); (case h => (first | exact ev_simple rfl | (apply Ev.isBin; first | exact ev_arN rfl rfl rfl (by omega)))))) | (refine T.is ?_; first | refine T.seq ?_ | refine T.region ?_ | refine T.block ?_ | refine T.cond_t rfl ?_ | refine T.skip ?_) | (refine G.is ?_; first | refine G.next ?_) | refine TL.nil ?_)
      refine T.loop (α := Ses) (fun z => [(0, .pointer (some ⟨lb, 0, none⟩)), (1, .int .i64 (i : Int)), (4, .slice (some ⟨b13, 0, none⟩) i i), (6, .int .i64 (p : Int)), (7, .int .i64 (z.k : Int))])
        (fun z w' => (p + 1 ≤ z.k ∧ z.k ≤ i) ∧ Stt n t0 Tr z.s z.Q ∧ I (fsQ (z.s :: z.Q)) ∧ Same (s0 :: Qr) (z.s :: z.Q) ∧ Stl i z.s.F J B M p z.k ∧ Fr w w' (⟨b13, 3, ls.map intv⟩ :: sdsL (z.s :: z.Q)) [dpLd lb sb t0.g n m (t0 :: Tr), dpSds n K (z.s :: z.Q)] S)
        (fun z => i - z.k) ⟨p + 1, s1, Q1⟩ (by repeat (first | exact Sub.nil _ | refine Sub.cons rfl ?_ | refine Sub.cons' rfl (int_congr (by omega)) ?_)) ⟨⟨Nat.le_refl _, hk⟩, hS1, hI1, hSm, hst1, hF.weak (.refl _) (allH (by repeat (first | exact memH | apply memT)) (allH (by repeat (first | exact memH | apply memT)) allN))⟩ ?_
      clear hF hI1 hSm hst1 hS1
      rintro ⟨kk, s2, Q2⟩ w4 ⟨⟨hpk, hki⟩, hS2, hI2, hSm2, hst2, hF⟩
      dsimp only at hpk hki hS2 hI2 hSm2 hst2 hF ⊢
      rcases Nat.lt_or_ge kk i with hkk | hkk
      · have hkn : kk < n := by omega
        have hpk' : p ≠ kk := by omega
        have hd2 := Fr.sds hF (n := n) (K := K) (Q := s2 :: Q2) (by repeat (first | exact memH | apply memT))
        have hJk := hJ kk hkk
        obtain ⟨xp, yp, hxp, hqp, hyp, hcp, hLp, hKp⟩ := q0_get hS2 hd2 hpn hJk
        obtain ⟨xk, yk, hxk, hqk, hyk, hck, hLk, hKk⟩ := q0_get hS2 hd2 hkn hJk
        clear hd2
        have hpos := hst2.ech.pos kk hkk
        have hg2 := hS2.g
        have hjc : J kk < s2.c := by rw [hS2.c]; exact hJk
        have hnt : (s2 :: Q2).map Sd.st = t0 :: Tr := hS2.st
        have hstep := hst2.step (by omega) hkk hM hB
        have hbk2 : s2.back = false := by rw [hS2.bk]; exact hbk
        obtain ⟨q, hq⟩ : ∃ q, s2.F p (J kk) / s2.F kk (J kk) = q := ⟨_, rfl⟩
        rw [hq] at hstep
        have hok : (Opn.ad p kk (-q)).ok i := ⟨hpi, hkk, hpk'⟩
        have hBd2 := hX.op hI hok hI2 hbk2 (hstep.all hM hB (by omega))
        have hls2 := hJl kk hkk
        replace hF := Fr.addLI (Fr.addLI hF hLp) hLk
        clear hLp hLk
        repeat' (first | (refine TL.isOp ?_; first | (refine TL.isBin ?_; refine TL.cmpG rfl rfl rfl rfl (fun hc => ?_) (fun hc => ?_) <;> (try (first | (exfalso; omega) | exact absurd rfl hc))) | (apply TL.ev; (case hd => rfl); (case h => (first | exact ev_simple rfl | exact ev_indexN rfl rfl hkk (.inr rfl) | exact (ev_intAt hF rfl hls2 (by repeat (first | exact InV.head | apply InV.tail))))))) | (refine T.is ?_; first | refine T.seqM 13 rfl ?_ | refine T.region ?_ | refine T.block ?_ | refine T.cond_t rfl ?_ | refine T.skip ?_) | (refine G.is ?_; first | refine G.next ?_) | refine TL.nil ?_)
        refine T.cut (α := Nat × IV) (fun z => [(0, .pointer (some ⟨lb, 0, none⟩)), (1, .int .i64 (i : Int)), (4, .slice (some ⟨b13, 0, none⟩) i i), (6, .int .i64 (p : Int)), (7, .int .i64 (kk : Int)), (9, .pointer (some ⟨z.1, 0, none⟩))])
          (fun z w' => z.2.m.n ≤ K + 2 ∧ Fr w w' (⟨z.1, 43, [.bool z.2.neg, .slice z.2.m.A z.2.m.n z.2.m.c]⟩ :: ⟨b13, 3, ls.map intv⟩ :: sdsL (s2 :: Q2)) [dpLI q z.2, dpLd lb sb t0.g n m (t0 :: Tr), dpSds n K (s2 :: Q2)] S) ?_ ?_
        · repeat' (first | (refine TL.isOp ?_; first | (refine TL.isCall ?_; refine TL.call rfl rfl ?_; first | (refine (zfloor_ok _ yp yk (Fr.li hF (x := yp) (by repeat (first | exact memH | apply memT))).g (Fr.li hF (x := yk) (by repeat (first | exact memH | apply memT))).g (by omega) (by omega) (by rw [(Fr.li hF (x := yk) (by repeat (first | exact memH | apply memT))).val]; omega)).mono ?_; rintro _ w1 ⟨qi, ri, rfl, hLq, hLr, hE1, hKq, hKr⟩; rw [(Fr.li hF (x := yp) (by repeat (first | exact memH | apply memT))).val, (Fr.li hF (x := yk) (by repeat (first | exact memH | apply memT))).val, hq] at hLq; replace hF := Fr.addLI (hF.exts hE1) hLq; clear hE1 hLq hLr; refine Back.mk ?_)) | (refine TL.storeAFr hF rfl rfl rfl rfl (by refine ⟨?_, ?_⟩; (focus (repeat (first | apply SetV.head | apply SetV.tail))); rfl) rfl ?_; clear hF; intro ws hF) | (refine TL.allocFr hF (d := 9) rfl rfl ?_; clear hF; intro w9 b9 hF) | (refine TL.allocFr hF (d := 10) rfl rfl ?_; clear hF; intro w10 b10 hF)) | (refine TF.is ?_; first | refine TF.nil ?_ | refine TF.e rfl ?_ | refine TF.alt ?_ ?_ | (refine TF.pick rfl ?_; first | (apply TFo.ev; (case hd => rfl); (case h => (intro wh hF; first | exact ev_simple rfl | (apply Ev.isLoad; first | exact ev_loadV rfl (Fr.ld hF (by repeat (first | exact memH | apply memT))).ld rfl | exact ev_loadM rfl (rowq_sm (r := xp) hF (by repeat (first | exact InV.qr hxp | apply InV.tail))) hyp | exact ev_loadM rfl (rowq_sm (r := xk) hF (by repeat (first | exact InV.qr hxk | apply InV.tail))) hyk) | exact ev_fieldAddr rfl | exact ev_nilCheck rfl | exact ev_indexN rfl rfl hpn (.inr rfl) | exact ev_indexN rfl rfl hkn (.inr rfl) | exact ev_rowq hF rfl hxp (by repeat (first | exact InV.q0 hg2 | apply InV.tail)) | exact ev_rowq hF rfl hxk (by repeat (first | exact InV.q0 hg2 | apply InV.tail)) | exact ev_indexM rfl rfl hjc (.inr rfl)))))) | (refine T.is ?_; first | (refine T.regionFr hF 13 30 (.s 0 (.s 1 (.s 2 (.s 3 (.s 4 (.s 5 (.s 6 (.s 7 (.s 8 (.s 9 (.s 10 (.s 11 (.s 12 (.s 13 (.s 14 (.s 15 (.s 16 (.s 17 (.s 18 (.s 19 (.alt (.e 20 (.s 21 (.s 22 (.s 23 (.s 24 (.alt (.e 25 (.e 26 (.e 27 (.e 28 (.s 29 .nil))))) (.e 26 (.e 25 (.e 27 (.e 28 (.s 29 .nil))))))))))) (.alt (.e 25 (.alt (.e 20 (.s 21 (.s 22 (.s 23 (.s 24 (.e 26 (.e 27 (.e 28 (.s 29 .nil))))))))) (.e 26 (.e 20 (.s 21 (.s 22 (.s 23 (.s 24 (.e 27 (.e 28 (.s 29 .nil))))))))))) (.e 26 (.alt (.e 20 (.s 21 (.s 22 (.s 23 (.s 24 (.e 25 (.e 27 (.e 28 (.s 29 .nil))))))))) (.e 25 (.e 20 (.s 21 (.s 22 (.s 23 (.s 24 (.e 27 (.e 28 (.s 29 .nil))))))))))))))))))))))))))))))))) mixed (by kernel_rfl) ?_; clear hF; intro wr hF)) | (refine G.is ?_; first | refine G.only ?_ | refine G.tree rfl (hF.weak (by repeat (first | exact List.Sublist.refl _ | apply List.Sublist.cons_cons | apply List.Sublist.cons)) (by repeat (first | exact allR | apply allT))) ?_) | refine TL.nil ?_)
          all_goals first
            | exact G.cut (b9, qi) (by repeat (first | exact Sub.nil _ | refine Sub.cons rfl ?_ | refine Sub.cons' rfl (int_congr (by omega)) ?_)) ⟨by dsimp only; omega, hF.weak (.cons_cons _ (.cons _ (.refl _))) (allH (by repeat (first | exact memH | apply memT)) (allH (by repeat (first | exact memH | apply memT)) (allH (by repeat (first | exact memH | apply memT)) allN)))⟩
            | exact G.cut (b9, qi) (by repeat (first | exact Sub.nil _ | refine Sub.cons rfl ?_ | refine Sub.cons' rfl (int_congr (by omega)) ?_)) ⟨by dsimp only; omega, hF.weak (.cons _ (.refl _)) (allH (by repeat (first | exact memH | apply memT)) (allH (by repeat (first | exact memH | apply memT)) (allH (by repeat (first | exact memH | apply memT)) allN)))⟩
        clear hF
        rintro ⟨b9, qi⟩ w5 ⟨hqn, hF⟩
        dsimp only at hqn hF ⊢
        repeat' (first | (refine TL.isOp ?_; first | (refine TL.isCall ?_; refine TL.call rfl rfl ?_; first | (refine (zneg_ok _ qi (Fr.li hF (x := qi) (z := q) (by repeat (first | exact memH | apply memT))).g (by omega)).mono ?_; rintro _ w6 ⟨u, rfl, hLu, hE1, hKu⟩; rw [(Fr.li hF (x := qi) (z := q) (by repeat (first | exact memH | apply memT))).val] at hLu; replace hF := Fr.addLI (hF.exts hE1) hLu; clear hE1 hLu; refine Back.mk ?_) | (refine (lmaddZ_ok _ lb sb t0.g n m K p kk (s2 :: Q2) u (-q) _ hS2.shp (hS2.len hm) hpn hkn hpk' (by omega) (by omega) (by rw [hnt]; exact Fr.subP [_, _] hF (allH (by repeat (first | exact memH | apply memT)) (allH (by repeat (first | exact memH | apply memT)) (allH (by repeat (first | exact memH | apply memT)) allN)))) hBd2).mono ?_; rintro _ w6 ⟨rfl, Q3, hR3, hF'⟩; replace hF := Fr.retQ [_, _] hF hR3.blk hF'; clear hF'; refine Back.mk ?_)) | (apply TL.ev; (case hd => rfl); (case h => (first | exact ev_simple rfl | (apply Ev.isBin; first | exact ev_arN rfl rfl rfl (by omega)) | (apply Ev.isLoad; first | exact ev_loadAFr hF rfl (by refine ⟨?_, ?_⟩; (focus (repeat (first | exact InV.head | apply InV.tail))); rfl)))))) | (refine T.is ?_; first | refine T.region ?_) | (refine G.is ?_; first | refine G.next ?_ | refine G.blockN ?_) | refine TL.nil ?_)
        obtain ⟨s3, Q3', rfl, hS3, hF3⟩ := hS2.op hR3
        rw [hbk2] at hF3
        have hI3 := hI _ _ hok hI2
        rw [← hR3.fs] at hI3
        exact G.again ⟨kk + 1, s3, Q3'⟩ (by repeat (first | exact Sub.nil _ | refine Sub.cons rfl ?_ | refine Sub.cons' rfl (int_congr (by omega)) ?_)) ⟨⟨by dsimp only; omega, by dsimp only; omega⟩, hS3, hI3, hR3.blk.trans hSm2, by dsimp only; rw [hF3]; exact hstep, hF.weak (.cons _ (.refl _)) (allH (by repeat (first | exact memH | apply memT)) (allH (by repeat (first | exact memH | apply memT)) allN))⟩ (by dsimp only; omega)
      · obtain rfl : kk = i := by omega
        repeat' (first | (refine TL.isOp ?_; first | (refine TL.isBin ?_; refine TL.cmpG rfl rfl rfl rfl (fun hc => ?_) (fun hc => ?_) <;> (try (first | (exfalso; omega) | exact absurd rfl hc))) | (apply TL.ev; (case hd => rfl); (case h => (first | exact ev_simple rfl | (apply Ev.isBin; first | exact ev_arI rfl rfl rfl (by omega)))))) | (refine T.is ?_; first | refine T.seq ?_ | refine T.region ?_ | refine T.cond_f rfl ?_ | refine T.exit ?_) | (refine G.is ?_; first | refine G.next ?_ | refine G.blockN ?_ | refine G.blockE ?_ | refine G.thenE ?_) | refine TL.nil ?_)
        rw [hz]
        refine G.again ⟨p, s2, Q2⟩ (by repeat (first | exact Sub.nil _ | refine Sub.cons rfl ?_ | refine Sub.cons' rfl (int_congr (by omega)) ?_)) ⟨by dsimp only; omega, hS2, hI2, hSm2, fun h => ?_, fun p' hp' => ?_, hF.weak (.refl _) (allH (by repeat (first | exact memH | apply memT)) (allH (by repeat (first | exact memH | apply memT)) allN))⟩ (by dsimp only; omega)
        · dsimp only at h
          subst h
          exact ⟨hst2.ech, hst2.fin⟩
        · dsimp only at hp'
          subst hp'
          exact hst2.next hpi
end Go.Proofs.YthlbihbchobllaaGreat

namespace Go.Proofs.YthlbihbchobllaaGreat
open Go Go.Eng Go.Proofs Go.NatM Go.RowKit Go.Det

/-- what put leaves -/
def PutR (n t : Nat) (t0 : Ss) (Tr : List Ss) (J : Nat → Nat) (I : List (Bool × Mx) → Prop) (b : Bool) (Q' : List Sd) : Prop :=
  ∃ s1 Qr1, Q' = s1 :: Qr1 ∧ Stt n t0 Tr s1 Qr1 ∧ I (fsQ Q') ∧
    ((b = true ∧ ∃ J', Ech (t + 1) s1.F J' ∧ RedA (t + 1) s1.F J' ∧ ∀ i, i < t + 1 → J' i < t0.c) ∨ (b = false ∧ (∀ c, s1.F t c = 0) ∧ Ech t s1.F J ∧ RedA t s1.F J))
def RetQB (w : World) (n K : Nat) (Q : List Sd) (Φ : Bool → List Sd → Prop) (S : Nat → Prop) (e : Ending) (w' : World) : Prop :=
  ∃ b, e = .returned (.bool b) ∧ ∃ Q', Φ b Q' ∧ Same Q Q' ∧ Fr w w' (sdsL Q') [dpSds n K Q'] S
structure Pus where
  a : Nat
  e : Nat
  mm : Nat
  s : Sd
  Q : List Sd
structure Pue where
  a : Nat
  j : Nat
  s : Sd
  Q : List Sd
set_option maxRecDepth 100000 in
set_option maxHeartbeats 32000000 in
theorem lput_ok (w : World) (lb sb n m K t : Nat) (t0 : Ss) (Tr : List Ss) (s0 : Sd) (Qr : List Sd) (S : Nat → Prop) (J : Nat → Nat) (B Kh M : Int) (I : List (Bool × Mx) → Prop)
    (hS : Stt n t0 Tr s0 Qr) (hbk : t0.back = false) (hm : (t0 :: Tr).length ≤ 1048576) (ht : t < n) (hn : n ≤ 64) (hK : K ≤ 4398046511000) (hI : Inv (t + 1) I) (hI0 : I (fsQ (s0 :: Qr)))
    (hE : Ech t s0.F J) (hJ : ∀ i, i < t → J i < t0.c) (hBh : ∀ p c, p < t → Bd Kh (s0.F p c)) (hBt : ∀ c, Bd M (s0.F t c)) (hKh : 0 ≤ Kh) (hKM : Kh ≤ M) (hB : 0 ≤ B)
    (hW : ∀ fs, I fs → ∀ p c, p ≤ t → t0.c ≤ c → hd0 fs p c = 0)
    (hMn1 : ∀ fs J', I fs → Ech (t + 1) (hd0 fs) J' → Mn (t + 1) (hd0 fs) B)
    (hMn0 : ∀ fs J', I fs → (∀ c, hd0 fs t c = 0) → Ech t (hd0 fs) J' → Mn t (hd0 fs) B)
    (hX : BdI n K (t + 1) (gr ((t + 1 : Nat) * (B * B)) (tb Kh M t) (t + 1)) I)
    (hF : Fr w w (sdsL (s0 :: Qr)) (dpLd lb sb t0.g n m (t0 :: Tr) :: dpSds n K (s0 :: Qr) :: []) S) :
    Cl Tryz.prog 43 #[.pointer (some ⟨lb, 0, none⟩), .int .i64 (t : Int)] w (RetQB w n K (s0 :: Qr) (PutR n t t0 Tr J I) S) := by
  have hM : 0 ≤ M := by omega
  obtain ⟨Tb, hT⟩ : ∃ T, tb Kh M t = T := ⟨_, rfl⟩
  have hT0 : 0 ≤ Tb := by rw [← hT]; exact tb_nn hKh hM t
  rw [hT] at hX
  obtain ⟨X, hXe⟩ : ∃ X, gr ((t + 1 : Nat) * (B * B)) Tb (t + 1) = X := ⟨_, rfl⟩
  rw [hXe] at hX
  have hTX : Tb ≤ X := by rw [← hXe]; exact gr_up (Int.mul_nonneg (Int.natCast_nonneg _) (Int.mul_nonneg hB hB)) hT0 (Nat.zero_le _)
  have hc2 : t0.c ≤ 128 := by rw [← hS.c]; exact (hS.shp s0 (List.mem_cons_self ..)).c2
  refine enter Tryz.func43 rfl rfl rfl ?_
  repeat' (first | (refine TL.isOp ?_; first | (apply TL.ev; (case hd => rfl); (case h => (first | exact ev_simple rfl)))) | (refine T.is ?_; first | refine T.seqL 2 rfl ?_ | refine T.region ?_) | (refine G.is ?_; first | refine G.next ?_) | refine TL.nil ?_)
  refine T.cut (α := Pue) (fun z => [(0, .pointer (some ⟨lb, 0, none⟩)), (1, .int .i64 (t : Int)), (5, .int .i64 (z.a : Int))])
    (fun z w' => z.a ≤ t ∧ Stt n t0 Tr z.s z.Q ∧ I (fsQ (z.s :: z.Q)) ∧ Same (s0 :: Qr) (z.s :: z.Q) ∧ Ech t z.s.F J ∧ (∀ p c, p ≤ t → Bd Tb (z.s.F p c)) ∧ (z.j < t0.c ∧ (∀ c, c < z.j → z.s.F t c = 0) ∧ z.s.F t z.j ≠ 0) ∧ (∀ p, p < z.a → J p < z.j) ∧ (∀ p, z.a ≤ p → p < t → z.j < J p) ∧ Fr w w' (sdsL (z.s :: z.Q)) [dpLd lb sb t0.g n m (t0 :: Tr), dpSds n K (z.s :: z.Q)] S) ?_ ?_
  · repeat' (first | (refine TL.isOp ?_; first | (apply TL.ev; (case hd => rfl); (case h => (first | exact ev_simple rfl)))) | (refine T.is ?_; first | refine T.seq ?_ | refine T.region ?_ | refine T.block ?_) | (refine G.is ?_; first | refine G.next ?_) | refine TL.nil ?_)
    refine T.loop (α := Pus) (fun z => [(0, .pointer (some ⟨lb, 0, none⟩)), (1, .int .i64 (t : Int)), (5, .int .i64 (z.a : Int)), (6, .int .i64 (pz z.e))])
      (fun z w' => z.a ≤ t ∧ z.e ≤ t0.c ∧ Stt n t0 Tr z.s z.Q ∧ I (fsQ (z.s :: z.Q)) ∧ Same (s0 :: Qr) (z.s :: z.Q) ∧ PutS t z.s.F J Kh M z.e z.mm ∧ (∀ p, p < z.a → J p < z.e) ∧ Fr w w' (sdsL (z.s :: z.Q)) [dpLd lb sb t0.g n m (t0 :: Tr), dpSds n K (z.s :: z.Q)] S)
      (fun z => t0.c - z.e) ⟨0, 0, 0, s0, Qr⟩ (by repeat (first | exact Sub.nil _ | refine Sub.cons rfl ?_ | refine Sub.cons' rfl (int_congr (by omega)) ?_)) ⟨Nat.zero_le _, Nat.zero_le _, hS, hI0, .refl _, PutS.start hE hBh hBt, fun p hp => absurd hp (Nat.not_lt_zero _), hF.weak (.refl _) (allH (by repeat (first | exact memH | apply memT)) (allH (by repeat (first | exact memH | apply memT)) allN))⟩ ?_
    clear hF
    rintro ⟨a, e, mm, s1, Q1⟩ w2 ⟨ha, he, hS1, hI1, hSm, hP, hae, hF⟩
    dsimp only at ha he hS1 hI1 hSm hP hae hF ⊢
    have hbk1 : s1.back = false := by rw [hS1.bk]; exact hbk
    have hg1 := hS1.g
    have hc1 := hS1.c
    have hsh1 := hS1.shp s1 (List.mem_cons_self ..)
    obtain ⟨x, hx⟩ := sd_get hsh1 ht
    have hcx := hsh1.c x (List.mem_of_getElem? hx)
    repeat' (first | (refine TL.isOp ?_; first | (refine TL.isCall ?_; refine TL.call rfl rfl ?_; first | (refine (llead_ok _ _ _ _ _ K x.l (s1.F t) (rowq_sm (r := x) hF (by repeat (first | exact InV.qr hx | apply InV.tail))) hcx (.inr rfl) (lk_row (Fr.sds hF (by repeat (first | exact memH | apply memT))) ht hx) (by omega) (by omega)).mono ?_; rintro _ w3 ⟨j, rfl, hj, hE3⟩; replace hF := hF.exts hE3; clear hE3; refine Back.mk ?_)) | (apply TL.ev; (case hd => rfl); (case h => (first | exact ev_simple rfl | (apply Ev.isLoad; first | exact ev_loadV rfl (Fr.ld hF (by repeat (first | exact memH | apply memT))).ld rfl) | exact ev_fieldAddr rfl | exact ev_nilCheck rfl | exact ev_indexN rfl rfl ht (.inr rfl) | exact ev_rowq hF rfl hx (by repeat (first | exact InV.q0 hg1 | apply InV.tail)))))) | (refine T.is ?_; first | refine T.seqM 4 rfl ?_ | refine T.region ?_ | refine T.block ?_) | (refine G.is ?_; first | refine G.next ?_) | refine TL.nil ?_)
    obtain ⟨hj1, hj2, hj3⟩ := hj
    rcases Nat.lt_or_ge j s1.c with hjc | hjc
    · have h0 : s1.F t j ≠ 0 := hj3 hjc
      have hej : e ≤ j := by
        rcases Nat.lt_or_ge j e with h | h
        · exact absurd (hP.zero j h) h0
        · exact h
      have hpz : pz e < (j : Int) := by
        cases e with
        | zero => show (-1 : Int) < _; omega
        | succ e' => show (e' : Int) < _; omega
      have hP0 := hP.ech
      repeat' (first | (refine TL.isOp ?_; first | (refine TL.isG ?_; first | refine TL.grun rfl rfl rfl ?_) | (refine TL.isBin ?_; refine TL.cmpG rfl rfl rfl rfl (fun hc => ?_) (fun hc => ?_) <;> (try (first | (exfalso; omega) | exact absurd rfl hc))) | (apply TL.ev; (case hd => rfl); (case h => (first | exact ev_simple rfl | (apply Ev.isLoad; first | exact ev_loadV rfl (Fr.ld hF (by repeat (first | exact memH | apply memT))).ld rfl) | exact ev_len rfl | exact ev_fieldAddr rfl | exact ev_nilCheck rfl | exact ev_indexN rfl rfl ht (.inr rfl) | exact ev_rowq hF rfl hx (by repeat (first | exact InV.q0 hg1 | apply InV.tail)))))) | (refine T.is ?_; first | refine T.seq ?_ | refine T.region ?_ | refine T.block ?_ | refine T.cond_f rfl ?_ | refine T.skip ?_) | (refine G.is ?_; first | refine G.next ?_) | refine TL.nil ?_)
      refine T.loop (α := Nat) (fun i => [(0, .pointer (some ⟨lb, 0, none⟩)), (1, .int .i64 (t : Int)), (5, .int .i64 (i : Int)), (6, .int .i64 (j : Int)), (7, .int .i64 (j : Int))])
        (fun i w' => i ≤ t ∧ (∀ p, p < i → J p < j) ∧ Fr w w' (sdsL (s1 :: Q1)) [dpLd lb sb t0.g n m (t0 :: Tr), dpSds n K (s1 :: Q1)] S) (fun i => t - i) a (by repeat (first | exact Sub.nil _ | refine Sub.cons rfl ?_ | refine Sub.cons' rfl (int_congr (by omega)) ?_)) ⟨ha, (fun p hp => Nat.lt_of_lt_of_le (hae p hp) hej), hF⟩ ?_
      clear hF
      rintro i w4 ⟨hi, hlo, hF⟩
      rcases Nat.lt_or_ge i t with hit | hit
      · have hin : i < n := by omega
        obtain ⟨xa, hxa⟩ := sd_get hsh1 hin
        have hcxa := hsh1.c xa (List.mem_of_getElem? hxa)
        have hun := fun j9 (hj9 : LeadOk (s1.F i) s1.c j9) => lead_uniq hj9 (hP0.zero i · hit) (by have := hP0.pos i hit; omega) (by rw [hc1]; exact hJ i hit)
        rcases Nat.lt_or_ge (J i) j with hJj | hJj
        · repeat' (first | (refine TL.isOp ?_; first | (refine TL.isG ?_; first | refine TL.grun rfl rfl rfl ?_) | (refine TL.isCall ?_; refine TL.call rfl rfl ?_; first | (refine (llead_ok _ _ _ _ _ K xa.l (s1.F i) (rowq_sm (r := xa) hF (by repeat (first | exact InV.qr hxa | apply InV.tail))) hcxa (.inr rfl) (lk_row (Fr.sds hF (by repeat (first | exact memH | apply memT))) hin hxa) (by omega) (by omega)).mono ?_; rintro _ w3 ⟨j9, rfl, hj9, hE3⟩; obtain rfl := hun j9 hj9; replace hF := hF.exts hE3; clear hE3 hj9; refine Back.mk ?_)) | (refine TL.isBin ?_; refine TL.cmpG rfl rfl rfl rfl (fun hc => ?_) (fun hc => ?_) <;> (try (first | (exfalso; omega) | exact absurd rfl hc))) | (apply TL.ev; (case hd => rfl); (case h => (first | exact ev_simple rfl | (apply Ev.isBin; first | exact ev_arN rfl rfl rfl (by omega)) | (apply Ev.isLoad; first | exact ev_loadV rfl (Fr.ld hF (by repeat (first | exact memH | apply memT))).ld rfl) | exact ev_fieldAddr rfl | exact ev_nilCheck rfl | exact ev_indexN rfl rfl hin (.inr rfl) | exact ev_rowq hF rfl hxa (by repeat (first | exact InV.q0 hg1 | apply InV.tail)))))) | (refine T.is ?_; first | refine T.seq ?_ | refine T.region ?_ | refine T.block ?_ | refine T.cond_t rfl ?_ | refine T.skip ?_) | (refine G.is ?_; first | refine G.next ?_ | refine G.blockN ?_) | refine TL.nil ?_)
          exact G.again (i + 1) (by repeat (first | exact Sub.nil _ | refine Sub.cons rfl ?_ | refine Sub.cons' rfl (int_congr (by omega)) ?_)) ⟨hit, (fun p hp => by rcases Nat.lt_or_ge p i with h | h; exact hlo p h; obtain rfl : p = i := (by omega); exact hJj), hF⟩ (by omega)
        · by_cases hJe : J i = j
          · have hit' : i ≠ t := by omega
            have hpos : 1 ≤ s1.F i j := by have := hP0.pos i hit; rwa [hJe] at this
            have hjt : j < t0.c := by omega
            obtain ⟨u1, u2, u3, u4, u5, u6, u7⟩ := hP.sub hKh hM hj2 h0 hit hJe
            have hok1 : (Opn.ad t i (-(s1.F t j / s1.F i j))).ok (t + 1) := ⟨by omega, by omega, by omega⟩
            have hta : (tb Kh M i + 1) * (Kh + 1) ≤ X := Int.le_trans (tb_step hKh hM i) (Int.le_trans (by rw [← hT]; exact tb_mono hKh hM (by omega)) hTX)
            have hall := fun p c (hp : p < t + 1) => ((hP.all hKh hM hKM p c (by omega)).mono (show tb Kh M t ≤ X by rw [hT]; exact hTX))
            have hB1 := hX.op hI hok1 hI1 hbk1 (Bd.up hall fun c => (u1 c).mono hta)
            have hB2 : s1.F t j % s1.F i j ≠ 0 → ∀ g x y s u, ExtOk (s1.F i j) (s1.F t j % s1.F i j) g x y → s1.F t j % s1.F i j = g * s → s1.F i j = g * u → ∀ Q3, OpRel n (.ad t i (-(s1.F t j / s1.F i j))) (s1 :: Q1) Q3 → ∀ s' ∈ Q3, BdW n K ((Opn.mx i t x y (-s) u).on s'.back s'.F) := by
              intro hr g x y s u hok hs hu Q3 hR3
              obtain ⟨s3, Q3', rfl, hS3, hF3⟩ := hS1.op hR3
              have hI3 := hI _ _ hok1 hI1
              rw [← hR3.fs] at hI3
              have hb3 : s3.back = false := by rw [hS3.bk]; exact hbk
              obtain ⟨hP3, hdet⟩ := hP.meet1 hKh hM hKM hj2 h0 hit hJe hr hok hs hu
              rw [hbk1] at hF3
              refine hX.op hI (⟨by omega, by omega, hit', hdet⟩ : (Opn.mx i t x y (-s) u).ok (t + 1)) hI3 hb3 fun p c hp => ?_
              rw [hF3]
              exact (hP3.all hKh hM hKM p c (by omega)).mono (show tb Kh M t ≤ X by rw [hT]; exact hTX)
            have key : ∀ Q2, MeetR n i t j s1 Q1 Q2 → ∃ s2 Q2', Q2 = s2 :: Q2' ∧ Stt n t0 Tr s2 Q2' ∧ I (fsQ Q2) ∧ PutS t s2.F J Kh M (j + 1) (i + 1) := by
              intro Q2 hR
              rcases hR with ⟨hr0, hR⟩ | ⟨hr, g, x, y, s, u, hok, hs, hu, Q3, hRa, hRb⟩
              · obtain ⟨s2, Q2', rfl, hS2, hF2⟩ := hS1.op hR
                have hI2 := hI _ _ hok1 hI1
                rw [← hR.fs] at hI2
                rw [hbk1] at hF2
                exact ⟨s2, Q2', rfl, hS2, hI2, by rw [hF2]; exact hP.meet0 hKh hM hKM hj2 h0 hit hJe hr0⟩
              · obtain ⟨s3, Q3', rfl, hS3, hF3⟩ := hS1.op hRa
                obtain ⟨s2, Q2', rfl, hS2, hF2⟩ := hS3.op hRb
                have hI3 := hI _ _ hok1 hI1
                rw [← hRa.fs] at hI3
                obtain ⟨hP3, hdet⟩ := hP.meet1 hKh hM hKM hj2 h0 hit hJe hr hok hs hu
                have hI2 := hI (.mx i t x y (-s) u) _ ⟨by omega, by omega, hit', hdet⟩ hI3
                rw [← hRb.fs] at hI2
                rw [hbk1] at hF3
                rw [hS3.bk, hbk, hF3] at hF2
                exact ⟨s2, Q2', rfl, hS2, hI2, by rw [hF2]; exact hP3⟩
            repeat' (first | (refine TL.isOp ?_; first | (refine TL.isG ?_; first | refine TL.grun rfl rfl rfl ?_) | (refine TL.isCall ?_; refine TL.call rfl rfl ?_; first | (refine (llead_ok _ _ _ _ _ K xa.l (s1.F i) (rowq_sm (r := xa) hF (by repeat (first | exact InV.qr hxa | apply InV.tail))) hcxa (.inr rfl) (lk_row (Fr.sds hF (by repeat (first | exact memH | apply memT))) hin hxa) (by omega) (by omega)).mono ?_; rintro _ w3 ⟨j9, rfl, hj9, hE3⟩; obtain rfl := hun j9 hj9; replace hF := hF.exts hE3; clear hE3 hj9; refine Back.mk ?_) | (refine (lmeet_ok _ lb sb n m K i t j t0 Tr s1 Q1 _ hS1 hbk hm hin ht hit' hjt hpos hK hB1 hB2 (Fr.subP [] hF (allH (by repeat (first | exact memH | apply memT)) (allH (by repeat (first | exact memH | apply memT)) allN)))).mono ?_; rintro _ w5 ⟨rfl, Q2, hR2, hSm2, hF'⟩; replace hF := Fr.retQ [] hF hSm2 hF'; clear hF'; refine Back.mk ?_)) | (refine TL.isBin ?_; refine TL.cmpG rfl rfl rfl rfl (fun hc => ?_) (fun hc => ?_) <;> (try (first | (exfalso; omega) | exact absurd rfl hc))) | (apply TL.ev; (case hd => rfl); (case h => (first | exact ev_simple rfl | (apply Ev.isLoad; first | exact ev_loadV rfl (Fr.ld hF (by repeat (first | exact memH | apply memT))).ld rfl) | exact ev_fieldAddr rfl | exact ev_nilCheck rfl | exact ev_indexN rfl rfl hin (.inr rfl) | exact ev_rowq hF rfl hxa (by repeat (first | exact InV.q0 hg1 | apply InV.tail)))))) | (refine T.is ?_; first | refine T.seq ?_ | refine T.region ?_ | refine T.cond_f rfl ?_ | refine T.exit ?_ | refine T.skip ?_) | (refine G.is ?_; first | refine G.next ?_ | refine G.blockN ?_ | refine G.blockE ?_ | refine G.thenE ?_) | refine TL.nil ?_)
            obtain ⟨s2, Q2', rfl, hS2, hI2, hP2⟩ := key Q2 hR2
            exact G.again ⟨i, j + 1, i + 1, s2, Q2'⟩ (by repeat (first | exact Sub.nil _ | refine Sub.cons rfl ?_ | refine Sub.cons' rfl (int_congr (by omega)) ?_)) ⟨hi, by dsimp only; omega, hS2, hI2, hSm2.trans hSm, hP2, (fun p hp => Nat.lt_succ_of_lt (hlo p hp)), hF.weak (.refl _) (allH (by repeat (first | exact memH | apply memT)) (allH (by repeat (first | exact memH | apply memT)) allN))⟩ (by dsimp only; omega)
          · repeat' (first | (refine TL.isOp ?_; first | (refine TL.isG ?_; first | refine TL.grun rfl rfl rfl ?_) | (refine TL.isCall ?_; refine TL.call rfl rfl ?_; first | (refine (llead_ok _ _ _ _ _ K xa.l (s1.F i) (rowq_sm (r := xa) hF (by repeat (first | exact InV.qr hxa | apply InV.tail))) hcxa (.inr rfl) (lk_row (Fr.sds hF (by repeat (first | exact memH | apply memT))) hin hxa) (by omega) (by omega)).mono ?_; rintro _ w3 ⟨j9, rfl, hj9, hE3⟩; obtain rfl := hun j9 hj9; replace hF := hF.exts hE3; clear hE3 hj9; refine Back.mk ?_)) | (refine TL.isBin ?_; refine TL.cmpG rfl rfl rfl rfl (fun hc => ?_) (fun hc => ?_) <;> (try (first | (exfalso; omega) | exact absurd rfl hc))) | (apply TL.ev; (case hd => rfl); (case h => (first | exact ev_simple rfl | (apply Ev.isLoad; first | exact ev_loadV rfl (Fr.ld hF (by repeat (first | exact memH | apply memT))).ld rfl) | exact ev_fieldAddr rfl | exact ev_nilCheck rfl | exact ev_indexN rfl rfl hin (.inr rfl) | exact ev_rowq hF rfl hxa (by repeat (first | exact InV.q0 hg1 | apply InV.tail)))))) | (refine T.is ?_; first | refine T.seq ?_ | refine T.region ?_ | refine T.cond_t rfl ?_ | refine T.cond_f rfl ?_ | refine T.exit ?_) | (refine G.is ?_; first | refine G.next ?_ | refine G.blockE ?_ | refine G.blockE' rfl ?_ | refine G.thenE ?_) | refine TL.nil ?_)
            exact G.cut ⟨i, j, s1, Q1⟩ (by repeat (first | exact Sub.nil _ | refine Sub.cons rfl ?_ | refine Sub.cons' rfl (int_congr (by omega)) ?_)) ⟨by dsimp only; omega, hS1, hI1, hSm, hP.ech, (fun p c hp => by rw [← hT]; exact hP.all hKh hM hKM p c hp), ⟨by dsimp only; omega, hj2, h0⟩, hlo, (fun p hp hpt => Nat.lt_of_lt_of_le (show j < J i by omega) (hP.ech.mono_le hp hpt)), hF⟩
      · obtain rfl : i = t := by omega
        repeat' (first | (refine TL.isOp ?_; first | (refine TL.isG ?_; first | refine TL.gskip rfl rfl rfl rfl ?_) | (refine TL.isBin ?_; refine TL.cmpG rfl rfl rfl rfl (fun hc => ?_) (fun hc => ?_) <;> (try (first | (exfalso; omega) | exact absurd rfl hc))) | (apply TL.ev; (case hd => rfl); (case h => (first | exact ev_simple rfl)))) | (refine T.is ?_; first | refine T.seq ?_ | refine T.region ?_ | refine T.cond_t rfl ?_ | refine T.cond_f rfl ?_ | refine T.exit ?_) | (refine G.is ?_; first | refine G.next ?_ | refine G.blockE ?_ | refine G.blockE' rfl ?_ | refine G.thenE ?_) | refine TL.nil ?_)
        exact G.cut ⟨i, j, s1, Q1⟩ (by repeat (first | exact Sub.nil _ | refine Sub.cons rfl ?_ | refine Sub.cons' rfl (int_congr (by omega)) ?_)) ⟨by dsimp only; omega, hS1, hI1, hSm, hP.ech, (fun p c hp => by rw [← hT]; exact hP.all hKh hM hKM p c hp), ⟨by dsimp only; omega, hj2, h0⟩, hlo, (fun p hp hpt => by dsimp only at hp; omega), hF⟩
    · have hjq : j = s1.c := by omega
      have hz0 : ∀ c, s1.F t c = 0 := fun c => by
        rcases Nat.lt_or_ge c s1.c with h | h
        · exact hj2 c (by omega)
        · exact hW _ hI1 t c (Nat.le_refl _) (by omega)
      have hIz : Inv t (fun fs => I fs ∧ ∀ c, hd0 fs t c = 0) := by
        intro o fs ho ⟨h1, h2⟩
        refine ⟨hI o fs (ho.mono (Nat.le_succ t)) h1, fun c => ?_⟩
        cases fs with
        | nil => rfl
        | cons y fs =>
          show o.on y.1 y.2 t c = 0
          rw [Opn.far (Nat.le_refl t) ho]
          exact h2 c
      have hXz : BdI n K t (gr (t * (B * B)) Tb t) (fun fs => I fs ∧ ∀ c, hd0 fs t c = 0) := by
        intro fs ⟨h1, h2⟩ hb
        refine hX fs h1 fun p c hp => ?_
        rcases Nat.lt_or_ge p t with h | h
        · exact (hb p c h).mono (by rw [← hXe]; exact gr_next hB hT0)
        · obtain rfl : p = t := by omega
          rw [h2 c]
          exact ⟨by omega, by omega⟩
      repeat' (first | (refine TL.isOp ?_; first | (refine TL.isG ?_; first | refine TL.gskip rfl rfl rfl rfl ?_) | (refine TL.isCall ?_; refine TL.call rfl rfl ?_; first | (refine (lsettle_ok _ lb sb n m K t t0 Tr s1 Q1 _ J B Tb (fun fs => I fs ∧ ∀ c, hd0 fs t c = 0) hS1 hbk hm (by omega) hn hK hIz ⟨hI1, hz0⟩ hP.ech hJ (hMn0 _ J hI1 hz0 hP.ech) (fun p c hp => by rw [← hT]; exact hP.all hKh hM hKM p c (by omega)) hT0 hB hXz (Fr.subP [] hF (allH (by repeat (first | exact memH | apply memT)) (allH (by repeat (first | exact memH | apply memT)) allN)))).mono ?_; rintro _ w5 ⟨rfl, Q2, hR2, hSm2, hF'⟩; replace hF := Fr.retQ [] hF hSm2 hF'; clear hF'; refine Back.mk ?_)) | (refine TL.isBin ?_; refine TL.cmpG rfl rfl rfl rfl (fun hc => ?_) (fun hc => ?_) <;> (try (first | (exfalso; omega) | exact absurd rfl hc))) | (apply TL.ev; (case hd => rfl); (case h => (first | exact ev_simple rfl | (apply Ev.isLoad; first | exact ev_loadV rfl (Fr.ld hF (by repeat (first | exact memH | apply memT))).ld rfl) | exact ev_len rfl | exact ev_fieldAddr rfl | exact ev_nilCheck rfl | exact ev_indexN rfl rfl ht (.inr rfl) | exact ev_rowq hF rfl hx (by repeat (first | exact InV.q0 hg1 | apply InV.tail)))))) | (refine T.is ?_; first | refine T.seq ?_ | refine T.region ?_ | refine T.cond_t rfl ?_ | refine T.ret ?_) | (refine G.is ?_; first | refine G.next ?_ | refine G.blockR ?_ | refine G.thenR ?_) | refine TL.nil ?_)
      obtain ⟨s2, Q2', rfl, hS2, hI2, hE2, hA2⟩ := hR2
      exact G.ret1 rfl rfl ⟨false, rfl, s2 :: Q2', ⟨s2, Q2', rfl, hS2, hI2.1, .inr ⟨rfl, hI2.2, hE2, hA2⟩⟩, hSm2.trans hSm, hF.weak (.refl _) (allH (by repeat (first | exact memH | apply memT)) allN)⟩
  · clear hF
    rintro ⟨a, j, s1, Q1⟩ w2 ⟨ha, hS1, hI1, hSm, hE1, hBd1, ⟨hjc, hz, hnz⟩, hlo, hhi, hF⟩
    dsimp only at ha hS1 hI1 hSm hE1 hBd1 hjc hz hnz hlo hhi hF ⊢
    have hbk1 : s1.back = false := by rw [hS1.bk]; exact hbk
    have hg1 := hS1.g
    have hc1 := hS1.c
    have hsh1 := hS1.shp s1 (List.mem_cons_self ..)
    have hnt1 : (s1 :: Q1).map Sd.st = t0 :: Tr := hS1.st
    have hjc1 : j < s1.c := by omega
    obtain ⟨x, y, hx, hjx, hy, hcx, hLy, hKy⟩ := q0_get hS1 (Fr.sds hF (n := n) (K := K) (Q := s1 :: Q1) (by repeat (first | exact memH | apply memT))) ht hjc
    have hun := fun j9 (hj9 : LeadOk (s1.F t) s1.c j9) => lead_uniq hj9 hz hnz (by omega)
    have hye := hLy.e
    clear hLy
    have hok : (Opn.tn t).ok (t + 1) := Nat.lt_succ_self t
    have hBt2 := hX.op hI hok hI1 hbk1 (Bd.up (F := s1.F) (r := t + 1) (t := t) (v := fun c => - s1.F t c) (fun p c hp => (hBd1 p c (by omega)).mono hTX) (fun c => ((hBd1 t c (Nat.le_refl _)).neg).mono hTX))
    by_cases hneg : s1.F t j < 0
    · have hyn : nthV (ivc y) 0 = some (.bool true) := by
        show some (Value.bool y.neg) = _
        rw [hye, decide_eq_true hneg]
      repeat' (first | (refine TL.isOp ?_; first | (refine TL.isCall ?_; refine TL.call rfl rfl ?_; first | (refine (llead_ok _ _ _ _ _ K x.l (s1.F t) (rowq_sm (r := x) hF (by repeat (first | exact InV.qr hx | apply InV.tail))) hcx (.inr rfl) (lk_row (Fr.sds hF (by repeat (first | exact memH | apply memT))) ht hx) (by omega) (by omega)).mono ?_; rintro _ w3 ⟨j9, rfl, hj9, hE3⟩; rw [hun j9 hj9]; replace hF := hF.exts hE3; clear hE3 hj9; refine Back.mk ?_) | (refine (lmturn_ok _ lb sb t0.g n m K t (s1 :: Q1) _ hS1.shp (hS1.len hm) ht (by omega) (by rw [hnt1]; exact Fr.subP [] hF (allH (by repeat (first | exact memH | apply memT)) (allH (by repeat (first | exact memH | apply memT)) allN)))).mono ?_; rintro _ w5 ⟨rfl, Q2, hR2, hF'⟩; replace hF := Fr.retQ [] hF hR2.blk hF'; clear hF'; refine Back.mk ?_)) | (apply TL.ev; (case hd => rfl); (case h => (first | exact ev_simple rfl)))) | (refine TF.is ?_; first | refine TF.nil ?_ | refine TF.e rfl ?_ | (refine TF.pick rfl ?_; first | (apply TFo.ev; (case hd => rfl); (case h => (intro wh hF; first | exact ev_simple rfl | (apply Ev.isLoad; first | exact ev_loadV rfl (Fr.ld hF (by repeat (first | exact memH | apply memT))).ld rfl | exact ev_loadMF (off := 0) rfl (rowq_sm (r := x) hF (by repeat (first | exact InV.qr hx | apply InV.tail))) hy hyn) | exact ev_fieldAddr rfl | exact ev_nilCheck rfl | exact ev_indexN rfl rfl ht (.inr rfl) | exact ev_rowq hF rfl hx (by repeat (first | exact InV.q0 hg1 | apply InV.tail)) | exact ev_indexM rfl rfl hjc1 (.inr rfl) | exact ev_fieldAddrE rfl rfl))))) | (refine T.is ?_; first | refine T.seq ?_ | refine T.region ?_ | refine T.block ?_ | refine T.cond_t rfl ?_ | (refine T.regionFr hF 12 18 (.s 0 (.s 1 (.s 2 (.s 3 (.s 4 (.s 5 (.s 6 (.s 7 (.s 8 (.s 9 (.s 10 (.s 11 (.s 12 (.s 13 (.e 14 (.s 15 (.s 16 (.s 17 .nil)))))))))))))))))) mixed (by kernel_rfl) ?_; clear hF; intro wr hF)) | (refine G.is ?_; first | refine G.next ?_ | refine G.only ?_ | refine G.tree rfl (by first | exact hF | exact hF.weak (List.sublist_append_right _ _) (by repeat (first | exact allR | apply allT)) | exact hF.weak (by repeat (first | exact List.Sublist.refl _ | apply List.Sublist.cons)) (by repeat (first | exact allR | apply allT)) | exact hF.weak (by repeat (first | exact List.Sublist.refl _ | apply List.Sublist.cons)) (by repeat (first | exact allN | refine allH (by repeat (first | exact memH | apply memT)) ?_))) ?_) | refine TL.nil ?_)
      obtain ⟨s2, Q2', rfl, hS2, hF2⟩ := hS1.op hR2
      have hI2 := hI _ _ hok hI1
      rw [← hR2.fs] at hI2
      rw [hbk1] at hF2
      have hF2' : s2.F = up s1.F t (fun c => - s1.F t c) := hF2
      have hSm2 : Same (s0 :: Qr) (s2 :: Q2') := hR2.blk.trans hSm
      have hE2 : Ech t s2.F J := by rw [hF2']; exact hE1.turn _
      have hBd2 : ∀ p c, p ≤ t → Bd Tb (s2.F p c) := fun p c hp => by
        rw [hF2']
        exact Bd.up (F := s1.F) (r := t + 1) (fun p c hp => hBd1 p c (by omega)) (fun c => (hBd1 t c (Nat.le_refl _)).neg) p c (by omega)
      have hz2 : ∀ c, c < j → s2.F t c = 0 := fun c hc9 => by rw [hF2', up_eq, hz c hc9]; rfl
      have hp2 : 1 ≤ s2.F t j := by rw [hF2', up_eq]; omega
      refine T.loop (α := Ses) (fun z => [(0, .pointer (some ⟨lb, 0, none⟩)), (1, .int .i64 (t : Int)), (5, .int .i64 (a : Int)), (8, .int .i64 (z.k : Int))])
        (fun z w' => (a ≤ z.k ∧ z.k ≤ t) ∧ Stt n t0 Tr z.s z.Q ∧ I (fsQ (z.s :: z.Q)) ∧ Same (s0 :: Qr) (z.s :: z.Q) ∧ z.s.F = insR s2.F t z.k ∧ Fr w w' (sdsL (z.s :: z.Q)) [dpLd lb sb t0.g n m (t0 :: Tr), dpSds n K (z.s :: z.Q)] S)
        (fun z => z.k) ⟨t, s2, Q2'⟩ (by repeat (first | exact Sub.nil _ | refine Sub.cons rfl ?_ | refine Sub.cons' rfl (int_congr (by omega)) ?_)) ⟨⟨ha, Nat.le_refl _⟩, hS2, hI2, hSm2, by dsimp only; rw [insR_top], hF.weak (.refl _) (allH (by repeat (first | exact memH | apply memT)) (allH (by repeat (first | exact memH | apply memT)) allN))⟩ ?_
      clear hF
      rintro ⟨i, s3, Q3⟩ w6 ⟨⟨hai, hit⟩, hS3, hI3, hSm3, hF3, hF⟩
      dsimp only at hai hit hS3 hI3 hSm3 hF3 hF ⊢
      have hbk3 : s3.back = false := by rw [hS3.bk]; exact hbk
      have hBd3 : ∀ p c, p < t + 1 → Bd Tb (s3.F p c) := fun p c hp => by
        rw [hF3]
        obtain ⟨q, hq, e⟩ := insR_in (F := s2.F) hit (show p ≤ t by omega)
        rw [e]; exact hBd2 q c hq
      rcases Nat.lt_or_ge a i with hia | hia
      · have hnt3 : (s3 :: Q3).map Sd.st = t0 :: Tr := hS3.st
        have hio : (Opn.sw i (i - 1)).ok (t + 1) := ⟨by omega, by omega, by omega⟩
        have hsw : swp (insR s2.F t i) i (i - 1) = insR s2.F t (i - 1) := by
          obtain ⟨i', rfl⟩ : ∃ i', i = i' + 1 := ⟨i - 1, by omega⟩
          exact insR_step s2.F (i := i') (by omega)
        repeat' (first | (refine TL.isOp ?_; first | (refine TL.isCall ?_; refine TL.call rfl rfl ?_; first | (refine (lmswap_ok _ lb sb t0.g n m K i (i - 1) (s3 :: Q3) _ hS3.shp (hS3.len hm) (by omega) (by omega) (by omega) (by rw [hnt3]; exact Fr.subP [] hF (allH (by repeat (first | exact memH | apply memT)) (allH (by repeat (first | exact memH | apply memT)) allN)))).mono ?_; rintro _ w7 ⟨rfl, Q4, hR4, hF'⟩; replace hF := Fr.retQ [] hF hR4.blk hF'; clear hF'; refine Back.mk ?_)) | (refine TL.isBin ?_; refine TL.cmpG rfl rfl rfl rfl (fun hc => ?_) (fun hc => ?_) <;> (try (first | (exfalso; omega) | exact absurd rfl hc))) | (apply TL.ev; (case hd => rfl); (case h => (first | exact ev_simple rfl | (apply Ev.isBin; first | exact ev_arN rfl rfl rfl (by omega)))))) | (refine T.is ?_; first | refine T.seq ?_ | refine T.region ?_ | refine T.block ?_ | refine T.cond_t rfl ?_ | refine T.skip ?_) | (refine G.is ?_; first | refine G.next ?_ | refine G.blockN ?_) | refine TL.nil ?_)
        obtain ⟨s4, Q4', rfl, hS4, hF4⟩ := hS3.op hR4
        have hI4 := hI _ _ hio hI3
        rw [← hR4.fs] at hI4
        exact G.again ⟨i - 1, s4, Q4'⟩ (by repeat (first | exact Sub.nil _ | refine Sub.cons rfl ?_ | refine Sub.cons' rfl (int_congr (by omega)) ?_)) ⟨⟨by dsimp only; omega, by dsimp only; omega⟩, hS4, hI4, hR4.blk.trans hSm3, by dsimp only; rw [hF4, hbk3, hF3]; exact hsw, hF.weak (.refl _) (allH (by repeat (first | exact memH | apply memT)) (allH (by repeat (first | exact memH | apply memT)) allN))⟩ (by dsimp only; omega)
      · obtain rfl : i = a := by omega
        have hE3 : Ech (t + 1) s3.F (insJ J j i) := by
          rw [hF3]
          exact insR_ech hE2 hit hz2 hp2 hlo hhi
        have hJ3 : ∀ p, p < t + 1 → insJ J j i p < t0.c := fun p hp => by
          unfold insJ
          split
          · exact hJ p (by omega)
          · split
            · exact hjc
            · exact hJ (p - 1) (by omega)
        repeat' (first | (refine TL.isOp ?_; first | (refine TL.isCall ?_; refine TL.call rfl rfl ?_; first | (refine (lsettle_ok _ lb sb n m K (t + 1) t0 Tr s3 Q3 _ (insJ J j i) B Tb I hS3 hbk hm (by omega) hn hK hI hI3 hE3 hJ3 (hMn1 _ _ hI3 hE3) hBd3 hT0 hB (by rw [hXe]; exact hX) (Fr.subP [] hF (allH (by repeat (first | exact memH | apply memT)) (allH (by repeat (first | exact memH | apply memT)) allN)))).mono ?_; rintro _ w7 ⟨rfl, Q4, hR4, hSm4, hF'⟩; replace hF := Fr.retQ [] hF hSm4 hF'; clear hF'; refine Back.mk ?_)) | (refine TL.isBin ?_; refine TL.cmpG rfl rfl rfl rfl (fun hc => ?_) (fun hc => ?_) <;> (try (first | (exfalso; omega) | exact absurd rfl hc))) | (apply TL.ev; (case hd => rfl); (case h => (first | exact ev_simple rfl | (apply Ev.isBin; first | exact ev_arN rfl rfl rfl (by omega)))))) | (refine T.is ?_; first | refine T.seq ?_ | refine T.region ?_ | refine T.cond_f rfl ?_ | refine T.exit ?_ | refine T.ret ?_) | (refine G.is ?_; first | refine G.next ?_ | refine G.blockE ?_ | refine G.thenE ?_) | refine TL.nil ?_)
        obtain ⟨s4, Q4', rfl, hS4, hI4, hE4, hA4⟩ := hR4
        exact G.ret1 rfl rfl ⟨true, rfl, s4 :: Q4', ⟨s4, Q4', rfl, hS4, hI4, .inl ⟨rfl, insJ J j i, hE4, hA4, hJ3⟩⟩, hSm4.trans hSm3, hF.weak (.refl _) (allH (by repeat (first | exact memH | apply memT)) allN)⟩
    · have hyn : nthV (ivc y) 0 = some (.bool false) := by
        show some (Value.bool y.neg) = _
        rw [hye, decide_eq_false hneg]
      repeat' (first | (refine TL.isOp ?_; first | (refine TL.isCall ?_; refine TL.call rfl rfl ?_; first | (refine (llead_ok _ _ _ _ _ K x.l (s1.F t) (rowq_sm (r := x) hF (by repeat (first | exact InV.qr hx | apply InV.tail))) hcx (.inr rfl) (lk_row (Fr.sds hF (by repeat (first | exact memH | apply memT))) ht hx) (by omega) (by omega)).mono ?_; rintro _ w3 ⟨j9, rfl, hj9, hE3⟩; rw [hun j9 hj9]; replace hF := hF.exts hE3; clear hE3 hj9; refine Back.mk ?_)) | (apply TL.ev; (case hd => rfl); (case h => (first | exact ev_simple rfl)))) | (refine TF.is ?_; first | refine TF.nil ?_ | refine TF.e rfl ?_ | (refine TF.pick rfl ?_; first | (apply TFo.ev; (case hd => rfl); (case h => (intro wh hF; first | exact ev_simple rfl | (apply Ev.isLoad; first | exact ev_loadV rfl (Fr.ld hF (by repeat (first | exact memH | apply memT))).ld rfl | exact ev_loadMF (off := 0) rfl (rowq_sm (r := x) hF (by repeat (first | exact InV.qr hx | apply InV.tail))) hy hyn) | exact ev_fieldAddr rfl | exact ev_nilCheck rfl | exact ev_indexN rfl rfl ht (.inr rfl) | exact ev_rowq hF rfl hx (by repeat (first | exact InV.q0 hg1 | apply InV.tail)) | exact ev_indexM rfl rfl hjc1 (.inr rfl) | exact ev_fieldAddrE rfl rfl))))) | (refine T.is ?_; first | refine T.seq ?_ | refine T.region ?_ | refine T.block ?_ | refine T.cond_f rfl ?_ | refine T.skip ?_ | (refine T.regionFr hF 12 18 (.s 0 (.s 1 (.s 2 (.s 3 (.s 4 (.s 5 (.s 6 (.s 7 (.s 8 (.s 9 (.s 10 (.s 11 (.s 12 (.s 13 (.e 14 (.s 15 (.s 16 (.s 17 .nil)))))))))))))))))) mixed (by kernel_rfl) ?_; clear hF; intro wr hF)) | (refine G.is ?_; first | refine G.next ?_ | refine G.only ?_ | refine G.tree rfl (by first | exact hF | exact hF.weak (List.sublist_append_right _ _) (by repeat (first | exact allR | apply allT)) | exact hF.weak (by repeat (first | exact List.Sublist.refl _ | apply List.Sublist.cons)) (by repeat (first | exact allR | apply allT)) | exact hF.weak (by repeat (first | exact List.Sublist.refl _ | apply List.Sublist.cons)) (by repeat (first | exact allN | refine allH (by repeat (first | exact memH | apply memT)) ?_))) ?_) | refine TL.nil ?_)
      obtain ⟨s2, hs2⟩ : ∃ s2, s2 = s1 := ⟨_, rfl⟩
      obtain ⟨Q2', hQ2⟩ : ∃ Q2', Q2' = Q1 := ⟨_, rfl⟩
      rw [← hs2, ← hQ2] at hF hS1 hI1 hSm
      rw [← hs2] at hE1 hBd1 hz hnz hneg
      have hS2 := hS1
      have hI2 := hI1
      have hSm2 := hSm
      have hE2 := hE1
      have hBd2 := hBd1
      have hz2 := hz
      have hp2 : 1 ≤ s2.F t j := by omega
      refine T.loop (α := Ses) (fun z => [(0, .pointer (some ⟨lb, 0, none⟩)), (1, .int .i64 (t : Int)), (5, .int .i64 (a : Int)), (8, .int .i64 (z.k : Int))])
        (fun z w' => (a ≤ z.k ∧ z.k ≤ t) ∧ Stt n t0 Tr z.s z.Q ∧ I (fsQ (z.s :: z.Q)) ∧ Same (s0 :: Qr) (z.s :: z.Q) ∧ z.s.F = insR s2.F t z.k ∧ Fr w w' (sdsL (z.s :: z.Q)) [dpLd lb sb t0.g n m (t0 :: Tr), dpSds n K (z.s :: z.Q)] S)
        (fun z => z.k) ⟨t, s2, Q2'⟩ (by repeat (first | exact Sub.nil _ | refine Sub.cons rfl ?_ | refine Sub.cons' rfl (int_congr (by omega)) ?_)) ⟨⟨ha, Nat.le_refl _⟩, hS2, hI2, hSm2, by dsimp only; rw [insR_top], hF.weak (.refl _) (allH (by repeat (first | exact memH | apply memT)) (allH (by repeat (first | exact memH | apply memT)) allN))⟩ ?_
      clear hF
      rintro ⟨i, s3, Q3⟩ w6 ⟨⟨hai, hit⟩, hS3, hI3, hSm3, hF3, hF⟩
      dsimp only at hai hit hS3 hI3 hSm3 hF3 hF ⊢
      have hbk3 : s3.back = false := by rw [hS3.bk]; exact hbk
      have hBd3 : ∀ p c, p < t + 1 → Bd Tb (s3.F p c) := fun p c hp => by
        rw [hF3]
        obtain ⟨q, hq, e⟩ := insR_in (F := s2.F) hit (show p ≤ t by omega)
        rw [e]; exact hBd2 q c hq
      rcases Nat.lt_or_ge a i with hia | hia
      · have hnt3 : (s3 :: Q3).map Sd.st = t0 :: Tr := hS3.st
        have hio : (Opn.sw i (i - 1)).ok (t + 1) := ⟨by omega, by omega, by omega⟩
        have hsw : swp (insR s2.F t i) i (i - 1) = insR s2.F t (i - 1) := by
          obtain ⟨i', rfl⟩ : ∃ i', i = i' + 1 := ⟨i - 1, by omega⟩
          exact insR_step s2.F (i := i') (by omega)
        repeat' (first | (refine TL.isOp ?_; first | (refine TL.isCall ?_; refine TL.call rfl rfl ?_; first | (refine (lmswap_ok _ lb sb t0.g n m K i (i - 1) (s3 :: Q3) _ hS3.shp (hS3.len hm) (by omega) (by omega) (by omega) (by rw [hnt3]; exact Fr.subP [] hF (allH (by repeat (first | exact memH | apply memT)) (allH (by repeat (first | exact memH | apply memT)) allN)))).mono ?_; rintro _ w7 ⟨rfl, Q4, hR4, hF'⟩; replace hF := Fr.retQ [] hF hR4.blk hF'; clear hF'; refine Back.mk ?_)) | (refine TL.isBin ?_; refine TL.cmpG rfl rfl rfl rfl (fun hc => ?_) (fun hc => ?_) <;> (try (first | (exfalso; omega) | exact absurd rfl hc))) | (apply TL.ev; (case hd => rfl); (case h => (first | exact ev_simple rfl | (apply Ev.isBin; first | exact ev_arN rfl rfl rfl (by omega)))))) | (refine T.is ?_; first | refine T.seq ?_ | refine T.region ?_ | refine T.block ?_ | refine T.cond_t rfl ?_ | refine T.skip ?_) | (refine G.is ?_; first | refine G.next ?_ | refine G.blockN ?_) | refine TL.nil ?_)
        obtain ⟨s4, Q4', rfl, hS4, hF4⟩ := hS3.op hR4
        have hI4 := hI _ _ hio hI3
        rw [← hR4.fs] at hI4
        exact G.again ⟨i - 1, s4, Q4'⟩ (by repeat (first | exact Sub.nil _ | refine Sub.cons rfl ?_ | refine Sub.cons' rfl (int_congr (by omega)) ?_)) ⟨⟨by dsimp only; omega, by dsimp only; omega⟩, hS4, hI4, hR4.blk.trans hSm3, by dsimp only; rw [hF4, hbk3, hF3]; exact hsw, hF.weak (.refl _) (allH (by repeat (first | exact memH | apply memT)) (allH (by repeat (first | exact memH | apply memT)) allN))⟩ (by dsimp only; omega)
      · obtain rfl : i = a := by omega
        have hE3 : Ech (t + 1) s3.F (insJ J j i) := by
          rw [hF3]
          exact insR_ech hE2 hit hz2 hp2 hlo hhi
        have hJ3 : ∀ p, p < t + 1 → insJ J j i p < t0.c := fun p hp => by
          unfold insJ
          split
          · exact hJ p (by omega)
          · split
            · exact hjc
            · exact hJ (p - 1) (by omega)
        repeat' (first | (refine TL.isOp ?_; first | (refine TL.isCall ?_; refine TL.call rfl rfl ?_; first | (refine (lsettle_ok _ lb sb n m K (t + 1) t0 Tr s3 Q3 _ (insJ J j i) B Tb I hS3 hbk hm (by omega) hn hK hI hI3 hE3 hJ3 (hMn1 _ _ hI3 hE3) hBd3 hT0 hB (by rw [hXe]; exact hX) (Fr.subP [] hF (allH (by repeat (first | exact memH | apply memT)) (allH (by repeat (first | exact memH | apply memT)) allN)))).mono ?_; rintro _ w7 ⟨rfl, Q4, hR4, hSm4, hF'⟩; replace hF := Fr.retQ [] hF hSm4 hF'; clear hF'; refine Back.mk ?_)) | (refine TL.isBin ?_; refine TL.cmpG rfl rfl rfl rfl (fun hc => ?_) (fun hc => ?_) <;> (try (first | (exfalso; omega) | exact absurd rfl hc))) | (apply TL.ev; (case hd => rfl); (case h => (first | exact ev_simple rfl | (apply Ev.isBin; first | exact ev_arN rfl rfl rfl (by omega)))))) | (refine T.is ?_; first | refine T.seq ?_ | refine T.region ?_ | refine T.cond_f rfl ?_ | refine T.exit ?_ | refine T.ret ?_) | (refine G.is ?_; first | refine G.next ?_ | refine G.blockE ?_ | refine G.thenE ?_) | refine TL.nil ?_)
        obtain ⟨s4, Q4', rfl, hS4, hI4, hE4, hA4⟩ := hR4
        exact G.ret1 rfl rfl ⟨true, rfl, s4 :: Q4', ⟨s4, Q4', rfl, hS4, hI4, .inl ⟨rfl, insJ J j i, hE4, hA4, hJ3⟩⟩, hSm4.trans hSm3, hF.weak (.refl _) (allH (by repeat (first | exact memH | apply memT)) allN)⟩
end Go.Proofs.YthlbihbchobllaaGreat

namespace Go.Det
theorem Ech.cong {n : Nat} {R R' : Mx} {J : Nat → Nat} (h : Ech n R J) (e : ∀ p c, p < n → R' p c = R p c) : Ech n R' J :=
  ⟨fun i c hi hc => by rw [e i c hi]; exact h.zero i c hi hc, fun i hi => by rw [e i _ hi]; exact h.pos i hi, h.inc⟩
theorem RedA.cong {n : Nat} {R R' : Mx} {J : Nat → Nat} (h : RedA n R J) (e : ∀ p c, p < n → R' p c = R p c) : RedA n R' J := fun p hp t ht hpt => by
  have := h p hp t ht hpt
  rw [e p _ hp, e t _ ht]; exact this
/-- bits of the numbers of rows in Hermite form, and of all that is met -/
def aB (e : Nat) : Nat := 128 * (e + 6) + 7
def xB (e : Nat) : Nat := 193 * aB e + 192
theorem big_bd {e t : Nat} (ht : t + 1 ≤ 64) : gr ((t + 1 : Nat) * ((2 : Int) ^ (64 * (e + 6)) * 2 ^ (64 * (e + 6)))) (tb (2 ^ aB e - 1) (2 ^ aB e - 1) t) (t + 1) + 1 ≤ 2 ^ xB e := by
  have hp := two_pow_pos (aB e)
  have hB := two_pow_pos (64 * (e + 6))
  have h1 := tb_pow (a := aB e) (b := aB e) (K := 2 ^ aB e - 1) (M := 2 ^ aB e - 1) (by omega) (by omega) (by omega) (by omega) t
  have hK := kk_pow (n := t + 1) (e := e) ht
  have hK0 : (0 : Int) ≤ ((t + 1 : Nat) : Int) * (2 ^ (64 * (e + 6)) * 2 ^ (64 * (e + 6))) := Int.mul_nonneg (Int.natCast_nonneg _) (Int.mul_nonneg (by omega) (by omega))
  have h2 := gr_pow (a := aB e) (b := aB e + t * (2 * aB e + 2)) (K := ((t + 1 : Nat) : Int) * (2 ^ (64 * (e + 6)) * 2 ^ (64 * (e + 6)))) (M := tb (2 ^ aB e - 1) (2 ^ aB e - 1) t) hK0 (tb_nn (by omega) (by omega) t) hK h1 (t + 1)
  refine Int.le_trans h2 (two_pow_le ?_)
  have h3 : t * (2 * aB e + 2) ≤ 63 * (2 * aB e + 2) := Nat.mul_le_mul_right _ (by omega)
  have h4 : (t + 1) * (aB e + 1) ≤ 64 * (aB e + 1) := Nat.mul_le_mul_right _ ht
  unfold xB
  omega
theorem e_aB (e : Nat) : (2 : Int) ^ e ≤ 2 ^ aB e - 1 := by
  have h1 : (2 : Int) ^ (e + 1) ≤ 2 ^ aB e := two_pow_le (by unfold aB; omega)
  have h2 := two_pow_pos e
  rw [Int.pow_succ] at h1
  omega
theorem a_xB (e : Nat) : (2 : Int) ^ aB e - 1 ≤ 2 ^ xB e := by
  have : (2 : Int) ^ aB e ≤ 2 ^ xB e := two_pow_le (by unfold xB; omega)
  omega
/-- what put keeps, as Reduce asks it -/
structure PutI (n t s w : Nat) (A F : Mx) (Iw : List (Bool × Mx) → Prop) (fs : List (Bool × Mx)) : Prop where
  iw : Iw fs
  hd : ∃ G ys, fs = (false, G) :: ys ∧ Lat (s + 1) (t + 1) A G ∧ (∀ p c, t < p → p < n → G p c = F p c) ∧ (∀ p c, p < n → w ≤ c → G p c = 0)
theorem PutI.inv {n t s w : Nat} {A F : Mx} {Iw : List (Bool × Mx) → Prop} (h : Inv n Iw) (ht : t < n) : Inv (t + 1) (PutI n t s w A F Iw) := fun o fs ho ⟨h1, h2⟩ => by
  obtain ⟨G, ys, rfl, hL, hf, hc⟩ := h2
  refine ⟨h o _ (ho.mono ht) h1, o.on false G, _, rfl, hL.opn ho, fun p c hp hpn => ?_, fun p c hp hw => ?_⟩
  · rw [Opn.far (show t + 1 ≤ p by omega) ho]; exact hf p c hp hpn
  · exact Opn.col (n := n) (fun q hq => hc q c hq hw) (ho.mono ht) p hp
end Go.Det

namespace Go.Proofs.YthlbihbchobllaaGreat
open Go Go.Eng Go.Proofs Go.NatM Go.RowKit Go.Det

/-- a state of Reduce: t rows in Hermite form, rows ahead of en are still to be taken up -/
structure RedS (n t en w : Nat) (A F : Mx) (J : Nat → Nat) : Prop where
  ech : Ech t F J
  red : RedA t F J
  lt : ∀ i, i < t → J i < w
  lat : Lat (t + (n - en)) t A F
  left : ∀ k c, t ≤ k → k < en → F k c = A (k + (n - en)) c
  zero : ∀ p c, en ≤ p → p < n → F p c = 0
structure Rdu where
  t : Nat
  en : Nat
  s : Sd
  Q : List Sd
def RetRed (w : World) (n K : Nat) (Q : List Sd) (Φ : Nat → List Sd → Prop) (S : Nat → Prop) (e : Ending) (w' : World) : Prop :=
  ∃ t : Nat, e = .returned (.int .i64 (t : Int)) ∧ ∃ Q', Φ t Q' ∧ Same Q Q' ∧ Fr w w' (sdsL Q') [dpSds n K Q'] S
/-- what Reduce leaves -/
def RedR (n : Nat) (t0 : Ss) (Tr : List Ss) (A : Mx) (Iw : List (Bool × Mx) → Prop) (t : Nat) (Q' : List Sd) : Prop :=
  ∃ s1 Qr1 J, Q' = s1 :: Qr1 ∧ t ≤ n ∧ Stt n t0 Tr s1 Qr1 ∧ Iw (fsQ Q') ∧ RedS n t t t0.c A s1.F J
theorem fs_cons {s0 : Sd} {Qr : List Sd} (h : s0.back = false) : fsQ (s0 :: Qr) = (false, s0.F) :: fsQ Qr := by unfold fsQ; rw [List.map_cons, h]
set_option maxRecDepth 100000 in
set_option maxHeartbeats 32000000 in
theorem lreduce_ok (w : World) (lb sb n m K e : Nat) (t0 : Ss) (Tr : List Ss) (s0 : Sd) (Qr : List Sd) (S : Nat → Prop) (Iw : List (Bool × Mx) → Prop)
    (hS : Stt n t0 Tr s0 Qr) (hbk : t0.back = false) (hm : (t0 :: Tr).length ≤ 1048576) (hn : n ≤ 64) (hK : K ≤ 4398046511000) (hIw : Inv n Iw) (hI0 : Iw (fsQ (s0 :: Qr)))
    (hA : ∀ i c, Bd (2 ^ e) (s0.F i c)) (hw : ∀ i c, t0.c ≤ c → s0.F i c = 0) (hX : BdI n K n (2 ^ xB e) Iw)
    (hF : Fr w w (sdsL (s0 :: Qr)) (dpLd lb sb t0.g n m (t0 :: Tr) :: dpSds n K (s0 :: Qr) :: []) S) :
    Cl Tryz.prog 20 #[.pointer (some ⟨lb, 0, none⟩)] w (RetRed w n K (s0 :: Qr) (RedR n t0 Tr s0.F Iw) S) := by
  obtain ⟨A, hAe⟩ : ∃ A, s0.F = A := ⟨_, rfl⟩
  rw [hAe] at hA hw ⊢
  have hp := two_pow_pos (aB e)
  have hp6 := two_pow_pos (64 * (e + 6))
  refine enter Tryz.func20 rfl rfl rfl ?_
  repeat' (first | (refine TL.isOp ?_; first | (apply TL.ev; (case hd => rfl); (case h => (first | exact ev_simple rfl | (apply Ev.isLoad; first | exact ev_loadV rfl (Fr.ld hF (by repeat (first | exact memH | apply memT))).ld rfl) | exact ev_len rfl | exact ev_fieldAddr rfl | exact ev_nilCheck rfl)))) | (refine T.is ?_; first | refine T.seq ?_ | refine T.region ?_ | refine T.block ?_ | refine T.regionQ mixed (by kernel_rfl) ?_) | (refine G.is ?_; first | refine G.next ?_) | refine TL.nil ?_ | (refine TL.nilFr hF ?_; clear hF; intro wq hF))
  refine T.loop (α := Rdu) (fun z => [(0, .pointer (some ⟨lb, 0, none⟩)), (3, .int .i64 (z.t : Int)), (4, .int .i64 (z.en : Int))])
    (fun z w' => (z.t ≤ z.en ∧ z.en ≤ n) ∧ Stt n t0 Tr z.s z.Q ∧ Iw (fsQ (z.s :: z.Q)) ∧ Same (s0 :: Qr) (z.s :: z.Q) ∧ (∃ J, RedS n z.t z.en t0.c A z.s.F J) ∧ Fr w w' (sdsL (z.s :: z.Q)) [dpLd lb sb t0.g n m (t0 :: Tr), dpSds n K (z.s :: z.Q)] S)
    (fun z => z.en - z.t) ⟨0, n, s0, Qr⟩ (by repeat (first | exact Sub.nil _ | refine Sub.cons rfl ?_ | refine Sub.cons' rfl (int_congr (by omega)) ?_)) ⟨⟨Nat.zero_le _, Nat.le_refl _⟩, hS, hI0, .refl _, ⟨fun _ => 0, ⟨⟨fun i c hi => absurd hi (Nat.not_lt_zero _), fun i hi => absurd hi (Nat.not_lt_zero _), fun i k hik hk => absurd hk (Nat.not_lt_zero _)⟩, fun p hp => absurd hp (Nat.not_lt_zero _), fun i hi => absurd hi (Nat.not_lt_zero _), by dsimp only; rw [Nat.sub_self]; exact Lat.none _ _, fun k c _ _ => by dsimp only; rw [Nat.sub_self, Nat.add_zero, hAe], fun p c h1 h2 => by dsimp only at h1; omega⟩⟩, hF.weak (.refl _) (allH (by repeat (first | exact memH | apply memT)) (allH (by repeat (first | exact memH | apply memT)) allN))⟩ ?_
  clear hF
  rintro ⟨t, en, s1, Q1⟩ w2 ⟨⟨hte, hen⟩, hS1, hI1, hSm, ⟨J, hR⟩, hF⟩
  dsimp only at hte hen hS1 hI1 hSm hR hF ⊢
  have hbk1 : s1.back = false := by rw [hS1.bk]; exact hbk
  rcases Nat.lt_or_ge t en with htn | htn
  · have htn' : t < n := by omega
    obtain ⟨s, hs⟩ : ∃ s, t + (n - en) = s := ⟨_, rfl⟩
    have hlat := hR.lat
    rw [hs] at hlat
    have hFt : ∀ c, s1.F t c = A s c := fun c => by rw [hR.left t c (Nat.le_refl _) htn, hs]
    have hcol : ∀ p c, p < n → t0.c ≤ c → s1.F p c = 0 := fun p c hp hc9 => by
      rcases Nat.lt_or_ge p t with h1 | h1
      · have h2 := hlat.of p h1
        obtain ⟨x, hx⟩ := h2
        rw [hx c]
        have : ∀ k, Go.Det.sm (fun p => x p * A p c) k = 0 := fun k => by
          rw [show (fun p => x p * A p c) = fun _ => 0 from funext fun p => by rw [hw p c hc9, Int.mul_zero]]
          exact Go.Det.sm_zero k
        exact this s
      · rcases Nat.lt_or_ge p en with h2 | h2
        · rw [hR.left p c h1 h2]; exact hw _ c hc9
        · exact hR.zero p c h2 hp
    have hbd := hlat.bd hR.ech hR.red hA (by omega)
    have hPI : PutI n t s t0.c A s1.F Iw (fsQ (s1 :: Q1)) := ⟨hI1, s1.F, _, fs_cons hbk1, hlat.next hFt, fun _ _ _ _ => rfl, hcol⟩
    have hW : ∀ fs, PutI n t s t0.c A s1.F Iw fs → ∀ p c, p ≤ t → t0.c ≤ c → hd0 fs p c = 0 := by
      rintro fs ⟨_, G, ys, rfl, _, _, h3⟩ p c hp9 hc9
      exact h3 p c (by omega) hc9
    have hMn1 : ∀ fs J', PutI n t s t0.c A s1.F Iw fs → Ech (t + 1) (hd0 fs) J' → Mn (t + 1) (hd0 fs) (2 ^ (64 * (e + 6))) := by
      rintro fs J' ⟨_, G, ys, rfl, h1, _, _⟩ he
      exact h1.mn he fun K C => minors_bd hA (by omega) K C
    have hMn0 : ∀ fs J', PutI n t s t0.c A s1.F Iw fs → (∀ c, hd0 fs t c = 0) → Ech t (hd0 fs) J' → Mn t (hd0 fs) (2 ^ (64 * (e + 6))) := by
      rintro fs J' ⟨_, G, ys, rfl, h1, _, _⟩ hz he
      exact (h1.drop hz).mn he fun K C => minors_bd hA (by omega) K C
    have hXp : BdI n K (t + 1) (gr ((t + 1 : Nat) * ((2 : Int) ^ (64 * (e + 6)) * 2 ^ (64 * (e + 6)))) (tb (2 ^ aB e - 1) (2 ^ aB e - 1) t) (t + 1)) (PutI n t s t0.c A s1.F Iw) := by
      rintro fs ⟨h0, G, ys, rfl, h1, h2, _⟩ hb
      refine hX _ h0 fun p c hp9 => ?_
      rcases Nat.lt_or_ge t p with h3 | h3
      · show Bd _ (G p c)
        rw [h2 p c h3 hp9]
        rcases Nat.lt_or_ge p en with h4 | h4
        · rw [hR.left p c (by omega) h4]
          exact (hA _ c).mono (by have := e_aB e; have := a_xB e; omega)
        · rw [hR.zero p c h4 hp9]
          have := two_pow_pos (xB e)
          exact ⟨by omega, by omega⟩
      · exact (hb p c (by omega)).mono (by have := big_bd (e := e) (t := t) (by omega); omega)
    repeat' (first | (refine TL.isOp ?_; first | (refine TL.isCall ?_; refine TL.call rfl rfl ?_; first | (refine (lput_ok _ lb sb n m K t t0 Tr s1 Q1 _ J (2 ^ (64 * (e + 6))) (2 ^ aB e - 1) (2 ^ aB e - 1) (PutI n t s t0.c A s1.F Iw) hS1 hbk hm htn' hn hK (PutI.inv hIw htn') hPI hR.ech hR.lt (fun p c hp9 => hbd p c hp9) (fun c => by rw [hFt c]; exact (hA s c).mono (e_aB e)) (by omega) (Int.le_refl _) (by omega) hW hMn1 hMn0 hXp (Fr.subP [] hF (allH (by repeat (first | exact memH | apply memT)) (allH (by repeat (first | exact memH | apply memT)) allN)))).mono ?_; rintro _ w3 ⟨b, rfl, Q2, hP2, hSm2, hF'⟩; replace hF := Fr.retQ [] hF hSm2 hF'; clear hF'; refine Back.mk ?_)) | (refine TL.isBin ?_; refine TL.cmpG rfl rfl rfl rfl (fun hc => ?_) (fun hc => ?_) <;> (try (first | (exfalso; omega) | exact absurd rfl hc))) | (apply TL.ev; (case hd => rfl); (case h => (first | exact ev_simple rfl)))) | (refine T.is ?_; first | refine T.seqM 4 rfl ?_ | refine T.region ?_ | refine T.block ?_ | refine T.cond_t rfl ?_ | refine T.skip ?_) | (refine G.is ?_; first | refine G.next ?_) | refine TL.nil ?_)
    obtain ⟨s2, Q2', rfl, hS2, hPI2, hcase⟩ := hP2
    obtain ⟨hI2, G, ys, hG, hL, hf, hcz⟩ := hPI2
    have hGF : s2.F = G := congrArg hd0 hG
    subst hGF
    have hbk2 : s2.back = false := by rw [hS2.bk]; exact hbk
    rcases hcase with ⟨rfl, J', hE', hA', hJ'⟩ | ⟨rfl, hz', hE', hA'⟩
    · repeat' (first | (refine TL.isOp ?_; first | (apply TL.ev; (case hd => rfl); (case h => (first | exact ev_simple rfl | (apply Ev.isBin; first | exact ev_arN rfl rfl rfl (by omega)))))) | (refine T.is ?_; first | refine T.region ?_ | refine T.cond_t rfl ?_) | (refine G.is ?_; first | refine G.blockN ?_) | refine TL.nil ?_)
      exact G.again ⟨t + 1, en, s2, Q2'⟩ (by repeat (first | exact Sub.nil _ | refine Sub.cons rfl ?_ | refine Sub.cons' rfl (int_congr (by omega)) ?_)) ⟨⟨htn, hen⟩, hS2, hI2, hSm2.trans hSm, ⟨J', ⟨hE', hA', hJ', by dsimp only; rw [show t + 1 + (n - en) = s + 1 by omega]; exact hL, fun k c hk1 hk2 => by dsimp only at hk1 hk2; rw [hf k c (by omega) (by omega)]; exact hR.left k c (by omega) hk2, fun p c hp1 hp2 => by dsimp only at hp1; rw [hf p c (by omega) hp2]; exact hR.zero p c hp1 hp2⟩⟩, hF.weak (.refl _) (allH (by repeat (first | exact memH | apply memT)) (allH (by repeat (first | exact memH | apply memT)) allN))⟩ (by dsimp only; omega)
    · repeat' (first | (refine TL.isOp ?_; first | (apply TL.ev; (case hd => rfl); (case h => (first | exact ev_simple rfl | (apply Ev.isBin; first | exact ev_arN rfl rfl rfl (by omega)))))) | (refine T.is ?_; first | refine T.seq ?_ | refine T.region ?_ | refine T.block ?_ | refine T.cond_f rfl ?_) | (refine G.is ?_; first | refine G.next ?_) | refine TL.nil ?_)
      refine T.loop (α := Ses) (fun z => [(0, .pointer (some ⟨lb, 0, none⟩)), (3, .int .i64 (t : Int)), (4, .int .i64 ((en - 1 : Nat) : Int)), (5, .int .i64 (z.k : Int))])
        (fun z w' => (t ≤ z.k ∧ z.k ≤ en - 1) ∧ Stt n t0 Tr z.s z.Q ∧ Iw (fsQ (z.s :: z.Q)) ∧ Same (s0 :: Qr) (z.s :: z.Q) ∧ ((∀ p c, p < t → z.s.F p c = s2.F p c) ∧ (∀ p c, t ≤ p → p < z.k → z.s.F p c = s2.F (p + 1) c) ∧ (∀ c, z.s.F z.k c = 0) ∧ (∀ p c, z.k < p → z.s.F p c = s2.F p c)) ∧ Fr w w' (sdsL (z.s :: z.Q)) [dpLd lb sb t0.g n m (t0 :: Tr), dpSds n K (z.s :: z.Q)] S)
        (fun z => en - z.k) ⟨t, s2, Q2'⟩ (by repeat (first | exact Sub.nil _ | refine Sub.cons rfl ?_ | refine Sub.cons' rfl (int_congr (by omega)) ?_)) ⟨⟨Nat.le_refl _, by dsimp only; omega⟩, hS2, hI2, hSm2.trans hSm, ⟨fun p c _ => rfl, fun p c h1 h2 => by dsimp only at h2; omega, hz', fun p c _ => rfl⟩, hF.weak (.refl _) (allH (by repeat (first | exact memH | apply memT)) (allH (by repeat (first | exact memH | apply memT)) allN))⟩ ?_
      clear hF
      rintro ⟨i, s3, Q3⟩ w4 ⟨⟨hti, hie⟩, hS3, hI3, hSm3, ⟨r1, r2, r3, r4⟩, hF⟩
      dsimp only at hti hie hS3 hI3 hSm3 r1 r2 r3 r4 hF ⊢
      have hbk3 : s3.back = false := by rw [hS3.bk]; exact hbk
      have hnt3 : (s3 :: Q3).map Sd.st = t0 :: Tr := hS3.st
      rcases Nat.lt_or_ge i (en - 1) with hin | hin
      · have hio : (Opn.sw i (i + 1)).ok n := ⟨by omega, by omega, by omega⟩
        repeat' (first | (refine TL.isOp ?_; first | (refine TL.isCall ?_; refine TL.call rfl rfl ?_; first | (refine (lmswap_ok _ lb sb t0.g n m K i (i + 1) (s3 :: Q3) _ hS3.shp (hS3.len hm) (by omega) (by omega) (by omega) (by rw [hnt3]; exact Fr.subP [] hF (allH (by repeat (first | exact memH | apply memT)) (allH (by repeat (first | exact memH | apply memT)) allN)))).mono ?_; rintro _ w7 ⟨rfl, Q4, hR4, hF'⟩; replace hF := Fr.retQ [] hF hR4.blk hF'; clear hF'; refine Back.mk ?_)) | (refine TL.isBin ?_; refine TL.cmpG rfl rfl rfl rfl (fun hc => ?_) (fun hc => ?_) <;> (try (first | (exfalso; omega) | exact absurd rfl hc))) | (apply TL.ev; (case hd => rfl); (case h => (first | exact ev_simple rfl | (apply Ev.isBin; first | exact ev_arN rfl rfl rfl (by omega)))))) | (refine T.is ?_; first | refine T.seq ?_ | refine T.region ?_ | refine T.block ?_ | refine T.cond_t rfl ?_ | refine T.skip ?_) | (refine G.is ?_; first | refine G.next ?_ | refine G.blockN ?_) | refine TL.nil ?_)
        obtain ⟨s4, Q4', rfl, hS4, hF4⟩ := hS3.op hR4
        have hI4 := hIw _ _ hio hI3
        rw [← hR4.fs] at hI4
        have hF4' : s4.F = swp s3.F i (i + 1) := by rw [hF4, hbk3]; rfl
        refine G.again ⟨i + 1, s4, Q4'⟩ (by repeat (first | exact Sub.nil _ | refine Sub.cons rfl ?_ | refine Sub.cons' rfl (int_congr (by omega)) ?_)) ⟨⟨by dsimp only; omega, by dsimp only; omega⟩, hS4, hI4, hR4.blk.trans hSm3, ⟨fun p c h1 => ?_, fun p c h1 h2 => ?_, fun c => ?_, fun p c h1 => ?_⟩, hF.weak (.refl _) (allH (by repeat (first | exact memH | apply memT)) (allH (by repeat (first | exact memH | apply memT)) allN))⟩ (by dsimp only; omega)
        · dsimp only
          rw [hF4']; unfold swp; rw [if_neg (by omega), if_neg (by omega)]; exact r1 p c h1
        · dsimp only at h2 ⊢
          rw [hF4']; unfold swp
          by_cases e1 : p = i
          · subst e1; rw [if_pos rfl]; exact r4 _ c (by omega)
          · rw [if_neg e1, if_neg (by omega)]; exact r2 p c h1 (by omega)
        · dsimp only
          rw [hF4']; unfold swp; rw [if_neg (by omega), if_pos rfl]; exact r3 c
        · dsimp only at h1 ⊢
          rw [hF4']; unfold swp; rw [if_neg (by omega), if_neg (by omega)]; exact r4 p c (by omega)
      · obtain rfl : i = en - 1 := by omega
        repeat' (first | (refine TL.isOp ?_; first | (refine TL.isBin ?_; refine TL.cmpG rfl rfl rfl rfl (fun hc => ?_) (fun hc => ?_) <;> (try (first | (exfalso; omega) | exact absurd rfl hc))) | (apply TL.ev; (case hd => rfl); (case h => (first | exact ev_simple rfl)))) | (refine T.is ?_; first | refine T.seq ?_ | refine T.region ?_ | refine T.cond_f rfl ?_ | refine T.exit ?_) | (refine G.is ?_; first | refine G.next ?_ | refine G.blockN ?_ | refine G.blockE ?_ | refine G.thenE ?_) | refine TL.nil ?_)
        have hcg : ∀ p c, p < t → s3.F p c = s2.F p c := r1
        refine G.again ⟨t, en - 1, s3, Q3⟩ (by repeat (first | exact Sub.nil _ | refine Sub.cons rfl ?_ | refine Sub.cons' rfl (int_congr (by omega)) ?_)) ⟨⟨by dsimp only; omega, by dsimp only; omega⟩, hS3, hI3, hSm3, ⟨J, ⟨hE'.cong hcg, hA'.cong hcg, hR.lt, ?_, fun k c hk1 hk2 => ?_, fun p c hp1 hp2 => ?_⟩⟩, hF.weak (.refl _) (allH (by repeat (first | exact memH | apply memT)) (allH (by repeat (first | exact memH | apply memT)) allN))⟩ (by dsimp only; omega)
        · dsimp only
          rw [show t + (n - (en - 1)) = s + 1 by omega]
          exact (hL.drop hz').congr fun p hp9 c => hcg p c hp9
        · dsimp only at hk1 hk2 ⊢
          rw [r2 k c hk1 (by omega), hf (k + 1) c (by omega) (by omega), hR.left (k + 1) c (by omega) (by omega), show k + 1 + (n - en) = k + (n - (en - 1)) by omega]
        · dsimp only at hp1
          rcases Nat.lt_or_ge (en - 1) p with h1 | h1
          · rw [r4 p c h1, hf p c (by omega) hp2]; exact hR.zero p c (by omega) hp2
          · obtain rfl : p = en - 1 := by omega
            exact r3 c
  · obtain rfl : t = en := by omega
    repeat' (first | (refine TL.isOp ?_; first | (refine TL.isBin ?_; refine TL.cmpG rfl rfl rfl rfl (fun hc => ?_) (fun hc => ?_) <;> (try (first | (exfalso; omega) | exact absurd rfl hc))) | (apply TL.ev; (case hd => rfl); (case h => (first | exact ev_simple rfl)))) | (refine T.is ?_; first | refine T.seq ?_ | refine T.region ?_ | refine T.cond_f rfl ?_ | refine T.exit ?_ | refine T.ret ?_) | (refine G.is ?_; first | refine G.next ?_ | refine G.blockE ?_ | refine G.thenE ?_) | refine TL.nil ?_)
    exact G.ret1 rfl rfl ⟨t, rfl, s1 :: Q1, ⟨s1, Q1, J, rfl, hen, hS1, hI1, hR⟩, hSm, hF.weak (.refl _) (allH (by repeat (first | exact memH | apply memT)) allN)⟩
end Go.Proofs.YthlbihbchobllaaGreat

namespace Go.Eng
open Go Go.RowKit
section
variable {P : Program} {N : Fm} {Q : Exit → Act → World → Prop} {σ : Store} {S : Nat → Prop} {w0 w : World} {L : List VB} {D : List DP} {ops : Array Oper} {d : Nat} {t : TypeId} {pos : String} {af : Array Edge} {rest : List Oper}
/-- to what stands at the head of a block known whole, elements of any type -/
theorem TL.appendAtFr {α : Type} {f : α → List Value} {g n c : Nat} {e : TypeId} {l : List α} {zs : List Value} {L' : List VB} (hF : Fr w0 w L D S) {x y : Operand} {ty : TypeId} [hT : USlice P ty e] {v0 : Value} {z : List Value} {sz b1 : Nat} [hS : USize P e v0 sz b1] (hzv : v0.cells = z.toArray) {a : Addr} {m c' B : Nat} {l' : List α}
    (hx : look σ x = some (.slice (some ⟨g, 0, none⟩) n c)) (hy : look σ y = some (.slice (some a) m c')) (hd : Nat.blt d N.n = true) (hs : Sm sz f w.heap B (some a) m c' l') (h1 : ∀ u, (f u).all (·.oneCell') = true) (hw : ∀ u, (f u).length = sz) (hzl : Nat.beq z.length sz = true) (hzn : z.all noU64 = true)
    (hl : l.length = n) (hzs : zs.length = (c - n) * sz) (hnc : n ≤ c) (hno : (l.flatMap f ++ zs).all noU64 = true)
    (hroom : (n + m) * b1 ≤ 140737488355328 ∧ n + m ≤ 4611686018427387904)
    (hL : SetV L g e (l.flatMap f ++ zs) ((l ++ l').flatMap f ++ zs.drop (m * sz)) L')
    (K1 : n + m ≤ c → ∀ w', Fr w0 w' L' D S → TL P N .seq ops Q rest ((d, .slice (some ⟨g, 0, none⟩) (n + m) c) :: σ) w')
    (K2 : c < n + m → ∀ w' b c2 zs', n + m ≤ c2 → zs'.length = (c2 - (n + m)) * sz → zs'.all noU64 = true → Fr w0 w' (⟨b, e, (l ++ l').flatMap f ++ zs'⟩ :: L) D S → TL P N .seq ops Q rest ((d, .slice (some ⟨b, 0, none⟩) (n + m) c2) :: σ) w') :
    TL P N .seq ops Q (⟨some d, .call { callee := .builtin .append, args := #[x, y], argTypes := #[ty, ty] }, t, pos, af, none⟩ :: rest) σ w := by
  obtain ⟨i, hi, hz0, hsz, hby⟩ := hS.info
  have hl' := hs.len
  have hzl' := Nat.eq_of_beq_eq_true hzl
  have hlf : (l.flatMap f).length = n * sz := by rw [flatMap_len (fun x _ => hw x), hl]
  have hlf' : (l'.flatMap f).length = m * sz := by rw [flatMap_len hs.wid, hl']
  have hV := hF.var hL.inV
  obtain ⟨b0, o0, hab⟩ : ∃ b0 o0, (a = ⟨b0, o0, none⟩ ∨ m = 0) := by
    rcases hs.mem with h | ⟨b, o, h, _⟩
    · exact ⟨0, 0, .inr h⟩
    · cases h; exact ⟨b, o, .inl rfl⟩
  have hnews : ∀ j v, (l'.flatMap f)[j]? = some v → w.cell? (a.add j) = some v := by
    rcases hab with rfl | h
    · exact sm_cells hs rfl
    · intro j v hv
      have := (List.getElem?_eq_some_iff.1 hv).1
      rw [hlf', h, Nat.zero_mul] at this; omega
  have holds : ∀ j v, (l.flatMap f)[j]? = some v → w.cell? ((⟨g, 0, none⟩ : Addr).add j) = some v := fun j v hv => by
    rw [add_mk, cell_of_hcell, Nat.zero_add, hV.cell, List.getElem?_append_left (List.getElem?_eq_some_iff.1 hv).1]; exact hv
  have h1' : ∀ u ∈ l'.flatMap f, u.oneCell' = true := fun u hu => by
    obtain ⟨q, _, hq⟩ := List.mem_flatMap.1 hu
    exact List.all_eq_true.1 (h1 q) u hq
  rcases Nat.lt_or_ge c (n + m) with hcm | hcm
  · have hr := run_append_grow (P := P) w ty t e i v0 hT.out hi hz0 ⟨g, 0, none⟩ n c (l.flatMap f) (by rw [hlf, hsz]) holds a m c' (l'.flatMap f) (by rw [hlf', hsz]) hnews (by omega) (by omega) (growslice_fits (by omega) (by rw [hby]; exact hroom.1))
    have hge := grownCap_ge w (n + m) c e
    have hV2 : Vr (w.drew.alloc (.cells ((l.flatMap f).toArray ++ (l'.flatMap f).toArray ++ Builtin.zeroCells z.toArray (grownCap w (n + m) c e - (n + m))) e)).heap w.heap.size e ((l ++ l').flatMap f ++ (Builtin.zeroCells z.toArray (grownCap w (n + m) c e - (n + m))).toList) := by
      unfold Vr
      have := heap_alloc w.drew (.cells ((l.flatMap f).toArray ++ (l'.flatMap f).toArray ++ Builtin.zeroCells z.toArray (grownCap w (n + m) c e - (n + m))) e)
      rw [show w.drew.heap.size = w.heap.size from rfl] at this
      rw [this]
      congr 2
      apply Array.ext'
      simp
    have hE : Ext w (w.drew.alloc (.cells ((l.flatMap f).toArray ++ (l'.flatMap f).toArray ++ Builtin.zeroCells z.toArray (grownCap w (n + m) c e - (n + m))) e)) := Ext.trans (ext_drewN w 1) (ext_alloc _ _)
    refine TL.op (fun ρ hρ => ?_) hd (K2 hcm _ _ _ _ hge (by rw [Array.length_toList, size_zeroCells, List.size_toArray, hzl']) (zero_noU hzn _) (hF.new rfl hV2 hE))
    rw [hzv] at hr
    simp [execOp, resolve, invoke, builtin, hρ x _ hx, hρ y _ hy, hr]
  · have hms : m * sz ≤ (c - n) * sz := Nat.mul_le_mul_right _ (by omega)
    have hr := run_append_room (P := P) w ty t e i hT.out hi g n c (l.flatMap f ++ zs).toArray hV a m c' (l'.flatMap f) (by rw [hlf', hsz]) hnews h1' hcm (by simp [hlf, hlf', hsz, hzs]; omega)
    have e1 : List.take (n * sz) (l.flatMap f ++ zs) = l.flatMap f := by rw [← hlf, List.take_left]
    have e2 : List.drop (n * sz + (l'.flatMap f).length) (l.flatMap f ++ zs) = zs.drop (m * sz) := by rw [← hlf, hlf', List.drop_append, List.drop_of_length_le (by omega)]; simp
    refine TL.op (w' := w.setRow g ((l.flatMap f) ++ l'.flatMap f ++ zs.drop (m * sz)).toArray) (fun ρ hρ => ?_) hd (K1 hcm _ (hF.store hL hno (upd_setRow _ _ _) ?_))
    · simp only [execOp, resolve, invoke, builtin, Sem.run_bind, Sem.run_pure, Result.andThen_ok, List.map_toArray, List.map_cons, List.map_nil, hρ x _ hx, hρ y _ hy]
      rw [hr]
      simp only [Result.andThen_ok, Sem.run_pure, hsz]
      rw [e1, e2]
    · unfold Vr at hV ⊢
      rw [setRow_heap w g _ _ e _ hV, List.flatMap_append]
/-- a literal of one value of one cell -/
theorem TL.build1Fr (hF : Fr w0 w L D S) {α : Type} {f : α → Value} (hfc : ∀ u, (f u).cells = #[f u]) {x : Operand} {ty e : TypeId} [hT : USlice P ty e] {z : Value} {b1 : Nat} [hS : USize P e z 1 b1] (hzc : z.cells = #[z]) {u : α} (hx : look σ x = some (f u)) (hd : Nat.blt d N.n = true)
    (K : ∀ w' b, w.heap.size ≤ b → Fr w0 w' L D S → Sm 1 (fun u => [f u]) w'.heap w'.heap.size (some ⟨b, 0, none⟩) 1 1 [u] → Ext w w' → TL P N .seq ops Q rest ((d, .slice (some ⟨b, 0, none⟩) 1 1) :: σ) w') :
    TL P N .seq ops Q (⟨some d, .buildSlice ty 1 #[(0, x)], t, pos, af, none⟩ :: rest) σ w :=
  TL.build1 hfc hzc hx hd fun w' b hb hB hE _ => by
    have hV : Vr w'.heap b e ([u].flatMap (fun u => [f u]) ++ []) := by unfold Bk at hB; unfold Vr; simpa using hB
    exact K w' b (by omega) (hF.exts hE) (vr_sm (by omega) (fun _ _ => rfl) hV rfl (Nat.le_refl _) hV.lt) hE
end
section
variable {S : Nat → Prop} {w0 w w' : World} {L : List VB} {D : List DP} {b : Nat} {t : TypeId} {cs : List Value}
/-- a block that a callee has made -/
theorem Fr.newGe (h : Fr w0 w L D S) (hb : w.heap.size ≤ b) (hV : Vr w'.heap b t cs) (hE : Ext w w') : Fr w0 w' (⟨b, t, cs⟩ :: L) D S := by
  have h1 := h.exts hE
  refine ⟨h1.exs, fun v hv => ?_, List.pairwise_cons.2 ⟨fun v hv e => ?_, h.dist⟩, h1.data, fun v hv d hd => ?_⟩
  · rcases List.mem_cons.1 hv with rfl | hv
    · exact ⟨.inl (Nat.le_trans h.exs.size hb), hV⟩
    · exact h1.vars v hv
  · have := (h.vars v hv).2.lt
    simp only at e
    omega
  · rcases List.mem_cons.1 hv with rfl | hv
    · intro hk
      have := d.lt _ _ (h.data d hd) hk
      simp only at this
      omega
    · exact h.apart v hv d hd
end
section
variable {P : Program} {n : Nat} {σ : Store} {w : World} {fn : Func} {R : Ending → World → Prop}
theorem Held.cx {ty : TypeId} {b B : Nat} {e : TypeId} {cs : List Value} [hA : UAgg P ty] {z : Value} {sz b1 : Nat} [hS : USize P ty z sz b1] {w' : World} (hV : Vr w.heap b e cs) (hl : Nat.beq cs.length sz = true) (hc : Cx B w w') : Held P ty w' b (.agg cs.toArray) :=
  held_agg (e := e) (by unfold Vr at hV ⊢; exact (hc.cells _ _ hV rfl).trans hV) hl
end
class UFunc (P : Program) (t : TypeId) : Prop where
  out : ∃ a b c, P.underlying t = some (.func a b c)
section
variable {P : Program} {σ : Store} {H : Array Obj} {d : Option Tmp} {t : TypeId} {pos : String} {af : Array Edge} {gd : Option (Nat × Bool)}
end
end Go.Eng

namespace Go.Proofs.YthlbihbchobllaaGreat
open Go Go.Eng Go.Proofs Go.NatM Go.RowKit

theorem LsK.congr {H : Array Obj} {c K : Nat} {l : List IV} {Z Z' : Nat → Int} (h : LsK c l Z K H) (e : ∀ q, q < c → Z q = Z' q) : LsK c l Z' K H := fun q hq => by rw [← e q hq]; exact h q hq
/-- a row in a block of its own -/
structure RB where
  b : Nat
  l : List IV
instance : Inhabited RB := ⟨⟨0, []⟩⟩
def rowv (c : Nat) (x : RB) : Value := .slice (some ⟨x.b, 0, none⟩) c c
def rowVB (x : RB) : VB := ⟨x.b, 43, x.l.flatMap ivc⟩
/-- the blocks of lines -/
def lns (g c : Nat) (R : List RB) (post : List VB) : List VB := ⟨g, 22, R.flatMap (fun x => [rowv c x])⟩ :: (R.map rowVB ++ post)
/-- the numbers of lines -/
def LsR (n c : Nat) (R : List RB) (F : Nat → Nat → Int) (K : Nat) (H : Array Obj) : Prop := ∀ i, i < n → LsK c (R.getD i default).l (F i) K H
def dpLn (n c : Nat) (R : List RB) (F : Nat → Nat → Int) (K : Nat) : DP := ⟨LsR n c R F K, fun _ => False, fun _ _ _ h => h.elim, fun _ _ hd h i hi q hq => ⟨(h i hi q hq).1.de hd, (h i hi q hq).2⟩⟩
theorem ln_fp {n c K : Nat} {R : List RB} {F : Nat → Nat → Int} : ∀ d ∈ [dpLn n c R F K], ∀ k, ¬ d.fp k := fun d hd k h => by rw [List.mem_singleton.1 hd] at h; exact h
/-- rows of one length -/
structure Rws (n c : Nat) (R : List RB) : Prop where
  n : R.length = n
  c : ∀ x ∈ R, x.l.length = c
theorem Rws.at {n c i : Nat} {R : List RB} (h : Rws n c R) (hi : i < n) : ∃ x, R[i]? = some x ∧ x.l.length = c ∧ R.getD i default = x := by
  have hl : i < R.length := by rw [h.n]; exact hi
  exact ⟨R[i], List.getElem?_eq_getElem hl, h.c _ (List.getElem_mem hl), by simp [List.getD, hl]⟩
theorem Rws.set {n c i : Nat} {R : List RB} {x : RB} (h : Rws n c R) (hx : x.l.length = c) : Rws n c (R.set i x) :=
  ⟨by rw [List.length_set]; exact h.n, fun y hy => by
    rcases List.mem_or_eq_of_mem_set hy with h1 | h1
    · exact h.c y h1
    · rw [h1]; exact hx⟩
section
variable {S : Nat → Prop} {w0 w w' : World} {L : List VB} {D : List DP}
theorem Fr.addLn (h : Fr w0 w L D S) {n c : Nat} {R : List RB} {F : Nat → Nat → Int} {K : Nat} (k : LsR n c R F K w.heap) : Fr w0 w L (dpLn n c R F K :: D) S := h.add _ k fun _ _ h => h
theorem Fr.ln (h : Fr w0 w L D S) {n c : Nat} {R : List RB} {F : Nat → Nat → Int} {K : Nat} (hm : dpLn n c R F K ∈ D) : LsR n c R F K w.heap := h.data _ hm
end
attribute [irreducible] dpLn

theorem flat_one {α : Type} (f : α → Value) (l : List α) : l.flatMap (fun x => [f x]) = l.map f := by
  induction l with
  | nil => rfl
  | cons x l ih => rw [List.flatMap_cons, ih]; rfl
/-- a list of integers in a block of its own, known whole -/
def RetLV (w : World) (n : Nat) (Z : Nat → Int) (K : Nat) (e : Ending) (w' : World) : Prop := ∃ (b : Nat) (l : List IV), e = .returned (.slice (some ⟨b, 0, none⟩) n n) ∧ l.length = n ∧ Vr w'.heap b 43 (l.flatMap ivc) ∧ LsK n l Z K w'.heap ∧ Ext w w' ∧ w.heap.size ≤ b
set_option maxRecDepth 100000 in
set_option maxHeartbeats 8000000 in
theorem each_vr (w : World) (A : Option Addr) (n k : Nat) (l : List IV) (hs : Sm 2 ivc w.heap w.heap.size A n k l) (hn : n ≤ 1048576) (g : FuncId) (cap : List Value) (hg : IsFn Tryz.prog g) (Z : Nat → Int) (K : Nat)
    (hG : ∀ i y (w1 : World), l[i]? = some y → Ext w w1 → Cl Tryz.prog g ([Value.agg (ivc y).toArray] ++ cap).toArray w1 (RetZ w1 (Z i) K)) :
    Cl Tryz.prog 57 #[.slice A n k, .func (.func g) #[] cap.toArray] w (RetLV w n Z K) := by
  have hlen := hs.len
  refine enter Tryz.func57 rfl rfl rfl ?_
  have hF := Fr.refl w
  repeat' (first | (refine TL.isOp ?_; first | (apply TL.ev; (case hd => rfl); (case h => (first | exact ev_simple rfl | exact ev_len rfl))) | (refine TL.makeFr hF ivc ⟨false, ⟨none, 0, 0, []⟩⟩ (d := 10) rfl rfl rfl (Nat.le_refl _) (by omega) rfl rfl rfl ?_; clear hF; intro w10 b10 hF)) | (refine T.is ?_; first | refine T.seq ?_ | refine T.region ?_ | refine T.block ?_) | (refine G.is ?_; first | refine G.next ?_) | refine TL.nil ?_)
  refine T.loop (α := Nat × List IV) (fun x => [(1, .func (.func g) #[] cap.toArray), (5, .slice (some ⟨b10, 0, none⟩) n n), (11, .slice A n k), (12, .int .i64 (n : Int)), (13, .int .i64 (x.1 : Int))])
    (fun x w' => x.1 ≤ n ∧ x.2.length = n ∧ Fr w w' [⟨b10, 43, x.2.flatMap ivc⟩] [dpLK x.1 x.2 Z K])
    (fun x => n - x.1) (0, List.replicate n ⟨false, ⟨none, 0, 0, []⟩⟩) (by repeat (first | exact Sub.nil _ | refine Sub.cons rfl ?_ | refine Sub.cons' rfl (int_congr (by omega)) ?_)) ⟨Nat.zero_le _, List.length_replicate .., Fr.addLK hF (fun q hq => absurd hq (Nat.not_lt_zero _))⟩ ?_
  clear hF
  rintro ⟨i, zl⟩ w2 ⟨hi, hzl, hF⟩
  dsimp only at hi hzl hF ⊢
  rcases Nat.lt_or_ge i n with hin | hin
  · have hy : l[i]? = some (l.getD i default) := by simp [List.getD, show i < l.length by omega]
    obtain ⟨⟨yneg, ⟨yA, yn, yc, yl⟩⟩, ey⟩ : ∃ y, l.getD i default = y := ⟨_, rfl⟩
    rw [ey] at hy
    repeat' (first | (refine TL.isOp ?_; first | (refine TL.isBin ?_; refine TL.cmpG rfl rfl rfl rfl (fun hc => ?_) (fun hc => ?_) <;> (try (first | (exfalso; omega) | exact absurd rfl hc))) | (apply TL.ev; (case hd => rfl); (case h => (first | exact ev_simple rfl | (apply Ev.isBin; first | exact ev_arN rfl rfl rfl (by omega)) | (apply Ev.isLoad; first | exact ev_loadAFr hF rfl (by refine ⟨?_, ?_⟩; (focus (repeat (first | exact InV.head | apply InV.tail))); rfl) | exact ev_loadM rfl (hs.ext hF.ext) hy) | exact ev_indexM rfl rfl hin (hs.ext hF.ext).some | exact ev_indexM rfl rfl hin (.inr rfl)))) | (refine TL.storeAFr hF rfl rfl rfl rfl (by refine ⟨?_, ?_⟩; (focus (repeat (first | apply SetV.head | apply SetV.tail))); rfl) rfl ?_; clear hF; intro ws hF) | (refine TL.callV (vs := [.agg (ivc ⟨yneg, ⟨yA, yn, yc, yl⟩⟩).toArray]) (cap := cap) hg rfl rfl rfl ?_; refine (hG i _ _ hy hF.ext).mono ?_; rintro _ wf ⟨x, rfl, hLx, hE, hKx⟩; replace hF := Fr.addLI (hF.exts hE) hLx; clear hE hLx; refine Back.mk ?_) | (refine TL.storeAtFr hF (f := ivc) x rfl rfl rfl rfl (fun _ => rfl) (by rw [hzl]; exact hin) (ivc_noV zl) (by repeat (first | apply SetV.head | apply SetV.tail)) ?_; clear hF; intro ws hF) | (refine TL.allocFr hF rfl rfl ?_; clear hF; intro wa ba hF)) | (refine T.is ?_; first | refine T.seq ?_ | refine T.region ?_ | refine T.block ?_ | refine T.cond_t rfl ?_ | refine T.skip ?_) | (refine G.is ?_; first | refine G.next ?_ | refine G.blockN ?_) | refine TL.nil ?_)
    have hk := (Fr.lk hF (i := i) (l := zl) (by repeat (first | exact memH | apply memT))).set (by omega) (Fr.li hF (x := x) (by repeat (first | exact memH | apply memT))) hKx
    exact G.again (i + 1, zl.set i x) (by repeat (first | exact Sub.nil _ | refine Sub.cons rfl ?_ | refine Sub.cons' rfl (int_congr (by omega)) ?_)) ⟨by dsimp only; omega, by rw [List.length_set]; exact hzl, Fr.addLK (hF.weak (L := [⟨b10, 43, (zl.set i x).flatMap ivc⟩]) (D := []) (List.Sublist.cons _ (List.Sublist.refl _)) allN) hk⟩ (by dsimp only; omega)
  · obtain rfl : i = n := by omega
    repeat' (first | (refine TL.isOp ?_; first | (refine TL.isBin ?_; refine TL.cmpG rfl rfl rfl rfl (fun hc => ?_) (fun hc => ?_) <;> (try (first | (exfalso; omega) | exact absurd rfl hc))) | (apply TL.ev; (case hd => rfl); (case h => (first | exact ev_simple rfl)))) | (refine T.is ?_; first | refine T.seq ?_ | refine T.region ?_ | refine T.cond_f rfl ?_ | refine T.exit ?_ | refine T.ret ?_) | (refine G.is ?_; first | refine G.next ?_ | refine G.blockE ?_ | refine G.thenE ?_) | refine TL.nil ?_)
    refine G.ret1 rfl rfl ⟨b10, zl, rfl, hzl, hF.var .head, Fr.lk hF (by repeat (first | exact memH | apply memT)), hF.ext, ?_⟩
    rcases hF.lo .head with h | h
    · exact h
    · exact h.elim
/-- a row that a walk hands over, known whole -/
structure RwV where
  i : Nat
  b : Nat
  n : Nat
  l : List IV
def rwA (x : RwV) : List Value := [.int .i64 (x.i : Int), .slice (some ⟨x.b, 0, none⟩) x.n x.n]
set_option maxRecDepth 100000 in
set_option maxHeartbeats 8000000 in
theorem lines_iter2 (b r c K k : Nat) (A : Option Addr) (l : List IV) (F : Nat → Nat → Int) (hK : K ≤ 35184372088832) :
    Iter Tryz.prog 56 [.pointer (some ⟨b, 0, none⟩)] rwA r (fun W => Vr W.heap b 24 [.int .i64 (r : Int), .int .i64 (c : Int), .slice A (r * c) k] ∧ LM W.heap ⟨r, c, A, r * c, k, l⟩ r c F K)
      (fun i x Wb W => x.i = i ∧ x.n = c ∧ x.l.length = c ∧ Vr W.heap x.b 43 (x.l.flatMap ivc) ∧ LsK c x.l (F i) K W.heap ∧ Wb.heap.size ≤ x.b) := by
  intro l' J Jx W hJ hJx hIt h0 hY
  obtain ⟨hV, hL⟩ := hIt
  have hr := hL.sh.r64
  have hc64 := hL.sh.c64
  have hkk := hL.s.cap
  dsimp only at hkk
  have hm := mul64 hr hc64
  refine (enterM Tryz.func56 rfl rfl rfl (fun _ h => by obtain ⟨⟨v, hv⟩, _⟩ := h; cases hv) ?_).out
  have hF := Fr.refl W
  repeat' (first | (refine TL.isOp ?_; first | (apply TL.ev; (case hd => rfl); (case h => (first | exact ev_simple rfl | (apply Ev.isLoad; first | exact ev_loadV rfl (hV.ext hF.ext) rfl) | exact ev_fieldAddr rfl)))) | (refine G.is ?_; first | refine G.nextL ?_ | refine G.nextI ?_) | refine TL.nil ?_ | (refine TI.is ?_; first | refine TI.seq ?_ | refine TI.regionI ?_ | refine TI.block ?_) | (refine TLI.is ?_; first | refine TLI.nil ?_ | refine TLI.step rfl ?_))
  refine TI.loop (α := Nat) (fun i => [(0, .func (.yield l') #[] #[]), (1, .pointer (some ⟨b, 0, none⟩)), (5, .int .i64 (r : Int)), (6, .int .i64 (i : Int))])
    (fun i W' => i ≤ r ∧ J i W' ∧ Vr W'.heap b 24 [.int .i64 (r : Int), .int .i64 (c : Int), .slice A (r * c) k] ∧ LM W'.heap ⟨r, c, A, r * c, k, l⟩ r c F K) (fun i => r - i) 0 (by repeat (first | exact Sub.nil _ | refine Sub.cons rfl ?_ | refine Sub.cons' rfl (int_congr (by omega)) ?_)) ⟨Nat.zero_le _, h0, hV, hL⟩ ?_
  clear hF hV hL h0
  rintro i W1 ⟨hi, hj, hV, hL⟩
  have hF := Fr.refl W1
  rcases Nat.lt_or_ge i r with hin | hin
  · have hrow : i * c + c ≤ r * c := by have := Nat.mul_le_mul_right c (show i + 1 ≤ r from hin); rw [Nat.add_mul, Nat.one_mul] at this; exact this
    have hi1 : (i + 1) * c = i * c + c := by rw [Nat.add_mul, Nat.one_mul]
    have hsr : Sm 2 ivc W1.heap W1.heap.size (cutM 2 A k (i * c)) c (k - i * c) ((l.drop (i * c)).take c) := by
      have := hL.s.dropTake (i := i * c) (j := (i + 1) * c) (m := k) (m' := k - i * c) (by omega) (by dsimp only; omega) hkk (by omega)
      rwa [row_sub] at this
    have hgr : ∀ y ∈ (l.drop (i * c)).take c, GI W1.heap y ∧ y.m.n ≤ K := fun y hy => hL.gm.g y (List.mem_of_mem_drop (List.mem_of_mem_take hy))
    have hZ : ∀ q, q < c → ival (((l.drop (i * c)).take c).getD q default) = F i q := fun q hq => by
      have e1 : ((l.drop (i * c)).take c).getD q default = l.getD (i * c + q) default := by simp [List.getD, List.getElem?_take, hq, List.getElem?_drop]
      rw [e1]; exact (hL.g i q hin hq).1.val
    repeat' (first | (refine TL.isOp ?_; first | (refine TL.isCall ?_; refine TL.call rfl rfl ?_; first | (refine (each_vr _ _ c _ _ (hsr.ext hF.ext).size (by omega) 45 [] inferInstance _ K (least_each _ _ K (fun y hy => ⟨(hgr y hy).1.ext hF.ext, (hgr y hy).2⟩) hK)).mono ?_; rintro _ wl ⟨bl, ll, rfl, hlen, hVl, hL0, hE, hbl⟩; have hLL := hL0.congr (Z' := F i) hZ; replace hbl := Nat.le_trans hF.ext.size hbl; replace hF := hF.exts hE; clear hE hL0; refine Back.mk ?_)) | (refine TL.isBin ?_; refine TL.cmpG rfl rfl rfl rfl (fun hc => ?_) (fun hc => ?_) <;> (try (first | (exfalso; omega) | exact absurd rfl hc))) | (apply TL.ev; (case hd => rfl); (case h => (first | exact ev_simple rfl | (apply Ev.isBin; first | exact ev_arN rfl rfl rfl (by omega)) | (apply Ev.isLoad; first | exact ev_loadV rfl (hV.ext hF.ext) rfl) | exact ev_fieldAddr rfl | exact ev_rowSl rfl rfl rfl (by omega))))) | (refine G.is ?_; first | refine G.nextL ?_ | refine G.nextI ?_ | refine G.blockN ?_ | refine G.blockR ?_ | refine G.thenR ?_) | refine TL.nil ?_ | (refine TI.is ?_; first | refine TI.seq ?_ | refine TI.regionI ?_ | refine TI.block ?_ | refine TI.cond_t rfl ?_ | refine TI.cond_f rfl ?_ | refine TI.ret ?_ | refine TI.skip ?_) | (refine TLI.is ?_; first | refine TLI.nil ?_ | (refine TLI.yield rfl rfl rfl ?_; refine Eng.YieldAt.weak (hY i ⟨i, bl, c, ll⟩ W1 _ hin hj ⟨hV, hL⟩ hF.ext ⟨rfl, rfl, hlen, hVl, hLL, hbl⟩) ?_; rintro e W2 (⟨rfl, hj2, hV2, hL2⟩ | ⟨rfl, hx2⟩) <;> refine ⟨_, rfl, ?_⟩ <;> clear hF <;> have hF := Fr.refl W2) | refine TLI.step rfl ?_))
    · exact G.again (i + 1) (by repeat (first | exact Sub.nil _ | refine Sub.cons rfl ?_ | refine Sub.cons' rfl (int_congr (by omega)) ?_)) ⟨by omega, hj2, hV2, hL2⟩ (by omega)
    · exact G.retM0 rfl ⟨⟨_, rfl⟩, .inr hx2⟩
  · obtain rfl : i = r := by omega
    repeat' (first | (refine TL.isOp ?_; first | (refine TL.isBin ?_; refine TL.cmpG rfl rfl rfl rfl (fun hc => ?_) (fun hc => ?_) <;> (try (first | (exfalso; omega) | exact absurd rfl hc)))) | (refine G.is ?_; first | refine G.nextL ?_ | refine G.nextI ?_ | refine G.blockE ?_ | refine G.thenE ?_) | refine TL.nil ?_ | (refine TI.is ?_; first | refine TI.seq ?_ | refine TI.regionI ?_ | refine TI.cond_f rfl ?_ | refine TI.exit ?_) | (refine TLI.is ?_; first | refine TLI.nil ?_ | refine TLI.step rfl ?_))
    exact G.endM0 rfl ⟨⟨_, rfl⟩, .inl ⟨hj, hV, hL⟩⟩
theorem G.round {N : Fm} {σ : Store} {I : World → Prop} {Ix : Code → World → Prop} {W w : World} (hK : KeepsOthers W w) (h : I w) : G N .normal (RPost I Ix W) σ w := by
  unfold G; exact fun a ha => ⟨hK, h⟩
theorem It.cx {W W' : World} {B b : Nat} {t : TypeId} {cs : List Value} {x : MV} {r c K : Nat} {F : Nat → Nat → Int} (h : Vr W.heap b t cs ∧ LM W.heap x r c F K) (hc : Cx B W W') : Vr W'.heap b t cs ∧ LM W'.heap x r c F K :=
  ⟨by have h1 := h.1; unfold Vr at h1 ⊢; exact (hc.cells _ _ h1 rfl).trans h1, h.2.de hc.de⟩
section
variable {S : Nat → Prop} {w0 w w' : World} {L : List VB} {D : List DP}
/-- a matrix whose box is known whole -/
theorem Fr.addBoxLM (h : Fr w0 w L D S) (hE : Ext w w') {b : Nat} {t : TypeId} {cs : List Value} {x : MV} {r c K : Nat} {F : Nat → Nat → Int} (hb : w.heap.size ≤ b) (hV : Vr w'.heap b t cs) (hc : cs.all flagless = true) (g : LM w'.heap x r c F K) (hf : MF w x) : Fr w0 w' (⟨b, t, cs⟩ :: L) (dpLM x r c F K :: D) S := by
  refine (h.newGe hb hV hE).add _ (by unfold dpLM; exact g) fun v hv hk => ?_
  have hk' : fpA x.A x.n v.b := by unfold dpLM at hk; exact hk
  rcases List.mem_cons.1 hv with rfl | hv
  · exact g.s.fp_flag hk' hV hc
  · have h1 := (h.vars v hv).2.lt
    have h2 := mf_fp hf _ hk'
    omega
end
/-- lines that have been made -/
def RetLn (w : World) (n c : Nat) (F : Nat → Nat → Int) (K : Nat) (e : Ending) (w' : World) : Prop :=
  ∃ (g : Nat) (R : List RB), e = .returned (.slice (some ⟨g, 0, none⟩) n n) ∧ Rws n c R ∧ Fr w w' (lns g c R []) [dpLn n c R F K]
/-- lines under way -/
def LnS (w w' : World) (b3 g bm : Nat) (A : Option Addr) (k : Nat) (l : List IV) (r c : Nat) (F : Nat → Nat → Int) (K i : Nat) : Prop :=
  ∃ (R : List RB) (zs : List Value), Rws i c R ∧ i ≤ r ∧ zs.length = (r - i) * 1 ∧ zs.all noU64 = true ∧
    Fr w w' (⟨b3, 48, [.slice (some ⟨g, 0, none⟩) i r]⟩ :: ⟨g, 22, R.flatMap (fun x => [rowv c x]) ++ zs⟩ :: ⟨bm, 24, [.int .i64 (r : Int), .int .i64 (c : Int), .slice A (r * c) k]⟩ :: R.map rowVB) [dpLn i c R F K, dpLM ⟨r, c, A, r * c, k, l⟩ r c F K]
theorem LnS.cx {w w' W : World} {b3 g bm : Nat} {A : Option Addr} {k : Nat} {l : List IV} {r c : Nat} {F : Nat → Nat → Int} {K i B : Nat} (h : LnS w w' b3 g bm A k l r c F K i) (hc : Cx B w' W) (hB : w.heap.size ≤ B) : LnS w W b3 g bm A k l r c F K i := by
  obtain ⟨R, zs, h1, h2, h3, h4, hF⟩ := h
  exact ⟨R, zs, h1, h2, h3, h4, hF.cx hc hB⟩
theorem rows_noV (c : Nat) (R : List RB) (zs : List Value) (hz : zs.all noU64 = true) : (R.flatMap (fun x => [rowv c x]) ++ zs).all noU64 = true := by
  rw [List.all_append, hz, Bool.and_true, List.all_eq_true]
  intro v hv
  obtain ⟨y, _, hy⟩ := List.mem_flatMap.1 hv
  rw [List.mem_singleton.1 hy]; rfl
theorem LsR.snoc {H : Array Obj} {n c K : Nat} {R : List RB} {F : Nat → Nat → Int} {x : RB} (h : LsR n c R F K H) (hn : R.length = n) (hx : LsK c x.l (F n) K H) : LsR (n + 1) c (R ++ [x]) F K H := by
  intro i hi
  rcases Nat.lt_or_ge i n with h1 | h1
  · have e1 : (R ++ [x]).getD i default = R.getD i default := by simp only [List.getD]; rw [List.getElem?_append_left (by omega)]
    rw [e1]; exact h i h1
  · obtain rfl : i = n := by omega
    have e1 : (R ++ [x]).getD i default = x := by subst hn; simp [List.getD]
    rw [e1]; exact hx
theorem Rws.snoc {n c : Nat} {R : List RB} {x : RB} (h : Rws n c R) (hx : x.l.length = c) : Rws (n + 1) c (R ++ [x]) :=
  ⟨by simp [h.n], fun y hy => by
    rcases List.mem_append.1 hy with h1 | h1
    · exact h.c y h1
    · rw [List.mem_singleton.1 h1]; exact hx⟩
theorem drop_noV {zs : List Value} (h : zs.all noU64 = true) (n : Nat) : (zs.drop n).all noU64 = true := List.all_eq_true.2 fun v hv => List.all_eq_true.1 h v (List.mem_of_mem_drop hv)
theorem Fr.make1 {P : Program} {N : Fm} {Q : Exit → Act → World → Prop} {σ : Store} {S : Nat → Prop} {w0 w : World} {L : List VB} {D : List DP} {ops : Array Oper} {d : Nat} {t : TypeId} {pos : String} {af : Array Edge} {rest : List Oper} (hF : Fr w0 w L D S) {x y : Operand} {ty e : TypeId} [hT : USlice P ty e] {v : Value} {b1 : Nat} [hS : USize P e v 1 b1] (hzc : v.cells = #[v]) {k k' : IntKind} {z1 z2 : Int} {n c : Nat} [e1 : IsN z1 n] [e2 : IsN z2 c]
    (hx : Eng.look σ x = some (.int k z1)) (hy : Eng.look σ y = some (.int k' z2)) (hd : Nat.blt d N.n = true) (hn : n ≤ c) (hc : b1 * c ≤ 281474976710656 ∧ c ≤ 9223372036854775807)
    (K : ∀ w' b, Fr w0 w' (⟨b, e, List.replicate c v⟩ :: L) D S → TL P N .seq ops Q rest ((d, .slice (some ⟨b, 0, none⟩) n c) :: σ) w') :
    TL P N .seq ops Q (⟨some d, .makeSlice ty x y, t, pos, af, none⟩ :: rest) σ w :=
  TL.makeV hzc hx hy hd hn hc fun w' b hb hB hE _ => K w' b (hF.new hb (by unfold Bk at hB; unfold Vr; simpa using hB) hE)
set_option maxRecDepth 100000 in
set_option maxHeartbeats 8000000 in
theorem hlines_ok (w : World) (x : MV) (r c K : Nat) (gx : GM w.heap x r c K) (hK : K ≤ 35184372088832) : Cl Tryz.prog 17 #[.agg (mvc x).toArray] w (RetLn w r c (ent x c) K) := by
  have hl := fun w1 (hE : Ext w w1) => lines_ok w1 x r c K (gx.ext hE) hK
  have hs0 := gx.sh
  generalize ent x c = F at *
  obtain ⟨xr, xc, A1, n1, k1, l1⟩ := x
  obtain ⟨hr1, hc1, hr, hcc, hn1⟩ := hs0
  dsimp only at hr1 hc1 hn1
  subst hr1 hc1 hn1
  refine enterM Tryz.func17 rfl rfl rfl (fun _ h => by obtain ⟨g, R, ha, _⟩ := h; cases ha) ?_
  have hF := Fr.refl w
  repeat' (first | (refine TL.isOp ?_; first | (refine TL.isCall ?_; refine TL.call rfl rfl ?_; first | (refine (hl _ hF.ext).mono ?_; rintro _ w1 ⟨bm, A, k, l, rfl, hVm, hLm, hE, hbm, hMf⟩; replace hF := Fr.addBoxLM hF hE hbm hVm rfl hLm hMf; clear hE hMf hVm; refine Back.mk ?_)) | (apply TL.ev; (case hd => rfl); (case h => (first | exact ev_simple rfl | (apply Ev.isLoad; first | exact ev_loadFr hF rfl (by refine ⟨?_, ?_⟩; (focus (repeat (first | exact InV.head | apply InV.tail))); rfl) | exact ev_loadAFr hF rfl (by refine ⟨?_, ?_⟩; (focus (repeat (first | exact InV.head | apply InV.tail))); rfl)) | exact ev_fieldAddr rfl))) | (refine TL.storeFr hF rfl rfl rfl rfl (by refine ⟨?_, ?_⟩; (focus (repeat (first | apply SetV.head | apply SetV.tail))); rfl) rfl ?_; clear hF; intro ws hF) | (refine TL.boxAFr hF (d := 1) (cs := [.int .i64 (r : Int), .int .i64 (c : Int), .slice A1 (r * c) k1]) rfl rfl ?_; clear hF; intro w1 b1 hF) | (refine TL.allocFr hF (d := 3) rfl rfl ?_; clear hF; intro w3 b3 hF) | (refine Fr.make1 hF (d := 8) rfl rfl rfl rfl (Nat.zero_le _) (by omega) ?_; clear hF; intro w8 b8 hF)) | (refine G.is ?_; first | refine G.nextI ?_) | refine TL.nil ?_ | (refine TI.is ?_; first | refine TI.seq ?_ | refine TI.region rfl ?_ | refine TI.block ?_))
  have hE1 := hF.ext
  have hS0 : LnS w w1 b3 b8 bm A k l r c F K 0 := ⟨[], List.replicate r (.slice none 0 0), ⟨rfl, fun _ h => (by cases h)⟩, Nat.zero_le _, by simp, by simp [List.all_eq_true, noU64], by
    refine Fr.perm ((Fr.addLn hF (n := 0) (c := c) (R := []) (F := F) (K := K) (fun i hi => absurd hi (Nat.not_lt_zero _))).weak (L := [⟨bm, 24, [.int .i64 (r : Int), .int .i64 (c : Int), .slice A (r * c) k]⟩, ⟨b3, 48, [.slice (some ⟨b8, 0, none⟩) 0 r]⟩, ⟨b8, 22, List.replicate r (.slice none 0 0)⟩]) (by repeat (first | exact List.Sublist.refl _ | apply List.Sublist.cons_cons | apply List.Sublist.cons)) allR) ?_
    simp only [List.map_nil, List.flatMap_nil, List.nil_append]
    exact (List.Perm.trans ((List.Perm.swap _ _ _).cons _) (List.Perm.swap _ _ _))⟩
  refine TI.rangeFunc (lines_iter2 bm r c K k A l F hK) rfl inferInstance (fun _ => rfl) rfl ⟨hF.var (by repeat (first | exact InV.head | apply InV.tail)), hLm⟩ (fun W W' h hc => It.cx h hc) (fun i W => LnS w W b3 b8 bm A k l r c F K i) (fun _ _ => False) (fun i W W' h hc => h.cx hc hE1.size) (fun _ _ _ h _ => h) hS0 ?_ ?_ (fun _ _ _ _ _ h => h.elim)
  · rintro L j ⟨i, xb, xn, xl⟩ Wb W hi hL hlp ⟨R, zs, hR, hir, hzs, hzn, hF⟩ hIt hEb ⟨e1, e2, hlen, hVx, hLx, hxb⟩
    dsimp only at e1 e2 hlen hVx hLx hxb
    subst e1 e2
    have hB := hE1.size
    clear hS0
    have hF1 := (Fr.addLK (hF.newGe hxb hVx hEb) hLx)
    clear hF
    repeat' (first | (refine TL.isOp ?_; first | (apply TL.ev; (case hd => rfl); (case h => (first | exact ev_simple rfl)))) | refine TL.nil ?_ | (refine TI.is ?_; first | refine TI.region rfl ?_))
    refine G.begun ⟨Nat.le_refl _, fun _ _ h _ => h⟩ fun w2 hc2 hl2 => ?_
    obtain ⟨S, hO, hF⟩ := (hF1.cx hc2 hB).open
    clear hF1
    repeat' (first | (refine TL.isOp ?_; first | (apply TL.ev; (case hd => rfl); (case h => (first | exact ev_simple rfl | (apply Ev.isLoad; first | exact ev_loadFr hF rfl (by refine ⟨?_, ?_⟩; (focus (repeat (first | exact InV.head | apply InV.tail))); rfl))))) | (refine TL.storeFr hF rfl rfl rfl rfl (by refine ⟨?_, ?_⟩; (focus (repeat (first | apply SetV.head | apply SetV.tail))); rfl) rfl ?_; clear hF; intro ws hF) | (refine TL.build1Fr hF (f := rowv xn) (u := ⟨xb, xl⟩) (fun _ => rfl) rfl rfl rfl ?_; clear hF; intro wl bl hbl hF hSl hEl) | (refine TL.appendAtFr (f := fun x => [rowv xn x]) (l := R) (zs := zs) hF rfl rfl rfl rfl hSl (fun _ => rfl) (fun _ => rfl) rfl rfl hR.n hzs hir (rows_noV _ _ _ hzn) (by omega) (by repeat (first | apply SetV.head | apply SetV.tail)) (fun hle wn hFn => ?_) (fun hgr => absurd hgr (by omega)); clear hF hSl hEl; have hF := hFn; clear hFn)) | (refine G.is ?_; first | refine G.blockN ?_) | refine TL.nil ?_ | (refine TI.is ?_; first | refine TI.region rfl ?_ | refine TI.block ?_))
    have hk := (Fr.ln hF (R := R) (F := F) (K := K) (n := i) (c := xn) (by repeat (first | exact memH | apply memT))).snoc (x := ⟨xb, xl⟩) hR.n (Fr.lk hF (i := xn) (l := xl) (Z := F i) (K := K) (by repeat (first | exact memH | apply memT)))
    have hF0 := Fr.shut hO (Fr.addLn hF hk)
    refine G.round (Fr.others hO hF) ⟨⟨R ++ [⟨xb, xl⟩], zs.drop (1 * 1), hR.snoc hlen, by omega, by rw [List.length_drop]; omega, drop_noV hzn _, ?_⟩, hF.var (by repeat (first | exact InV.head | apply InV.tail)), Fr.lm hF (by repeat (first | exact memH | apply memT))⟩
    refine Fr.perm (hF0.weak (.refl _) (allH (by repeat (first | exact memH | apply memT)) (allH (by repeat (first | exact memH | apply memT)) allN))) ?_
    rw [List.map_append, List.map_cons, List.map_nil]
    have hp : ∀ (a b c d : VB) (l : List VB), (a :: b :: c :: (l ++ [d])).Perm (d :: a :: b :: c :: l) := fun a b c d l => by
      have := (List.perm_append_singleton d (a :: b :: c :: l))
      simpa using this
    exact hp _ _ _ _ _
  · rintro D w2 hD hDw ⟨R, zs, hR, hir, hzs, hzn, hF⟩ hIt
    obtain rfl : zs = [] := List.eq_nil_of_length_eq_zero (by rw [hzs]; omega)
    obtain ⟨S, hO, hF⟩ := hF.open
    repeat' (first | (refine TL.isOp ?_; first | (apply TL.ev; (case hd => rfl); (case h => (first | exact ev_simple rfl | (apply Ev.isLoad; first | exact ev_loadFr hF rfl (by refine ⟨?_, ?_⟩; (focus (repeat (first | exact InV.head | apply InV.tail))); rfl)))))) | (refine G.is ?_; first | refine G.nextI ?_ | refine G.blockN ?_) | refine TL.nil ?_ | (refine TI.is ?_; first | refine TI.seq ?_ | refine TI.region rfl ?_ | refine TI.ret ?_))
    have hD2 := (Fr.others hO hF).same D _ hDw rfl
    have hF1 := (Fr.shut hO hF).cx (Cx.shut hD hD2) hE1.size
    refine G.retK1 rfl rfl hD2 ⟨b8, R, rfl, hR, ?_⟩
    rw [List.append_nil] at hF1
    unfold lns
    rw [List.append_nil]
    exact hF1.weak (.cons _ (.cons_cons _ (.cons _ (.refl _)))) (allH (by repeat (first | exact memH | apply memT)) allN)
theorem Fr.join {S : Nat → Prop} {w0 w w' : World} {L L' : List VB} {D D' : List DP} (h : Fr w0 w L D S) (h' : Fr w w' L' D') (hfp : ∀ d ∈ D', ∀ k, ¬ d.fp k) : Fr w0 w' (L' ++ L) (D' ++ D) S := by
  have hE := h'.ext
  have h1 := h.exts hE
  refine ⟨h1.exs, fun v hv => ?_, List.pairwise_append.2 ⟨h'.dist, h.dist, fun x hx y hy e => ?_⟩, fun d hd => ?_, fun v hv d hd => ?_⟩
  · rcases List.mem_append.1 hv with hv | hv
    · exact ⟨.inl (Nat.le_trans h.exs.size ((h'.vars v hv).1.resolve_right id)), (h'.vars v hv).2⟩
    · exact h1.vars v hv
  · have a1 := (h'.vars x hx).1.resolve_right id
    have a2 := (h.vars y hy).2.lt
    omega
  · rcases List.mem_append.1 hd with hd | hd
    · exact h'.data d hd
    · exact h1.data d hd
  · rcases List.mem_append.1 hd with hd | hd
    · exact hfp d hd _
    · rcases List.mem_append.1 hv with hv | hv
      · intro hk
        have a1 := (h'.vars v hv).1.resolve_right id
        have a2 := d.lt _ _ (h.data d hd) hk
        omega
      · exact h.apart v hv d hd
end Go.Proofs.YthlbihbchobllaaGreat
