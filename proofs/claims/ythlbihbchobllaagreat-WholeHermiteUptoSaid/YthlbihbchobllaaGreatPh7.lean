/- The ladder: Sign of long integers, Lead, rows added and mixed. Out of StpA: zint.Neg, rows' headers stored. The ladder: two rows mixed; the four operations of Like, the two of Against. The ladder: what Like and Against do to rows. The extended Euclid of bezout.Ext: its loop's invariant, its answer and bounds; plain Lean. Rows in echelon form reduced by one another (ladder.settle): the invariant of its two loops; plain Lean. A row brought into rows in Hermite form (ladder.put): the invariant of its meetings; plain Lean. A row laid among rows in echelon form (the end of ladder.put); plain Lean. WholeHermite's plain law: where bounds begin, no row is zero, and the left part of reduced rows is in Hermite form; plain Lean. -/
import Derived.Test.YthlbihbchobllaaGreatPh6
import Derived.Test.YthlbihbchobllaaGreatPh5
set_option linter.unusedVariables false
set_option linter.unusedSimpArgs false
namespace Go.Proofs.YthlbihbchobllaaGreat
open Go Go.Eng Go.Proofs Go.NatM Go.RowKit

set_option maxRecDepth 100000 in
theorem zsignX (w : World) (x : IV) (g : GI w.heap x) (hn : x.m.n ≤ 35184372088832) : Cl Tryz.prog 50 #[.agg (ivc x).toArray] w (fun e w' => e = .returned (.int .i64 (sig (ival x))) ∧ Ext w w') := by
  obtain ⟨yn, ⟨A1, n1, c1, l1⟩⟩ := x
  obtain ⟨b, hb⟩ : ∃ b, bl (val l1) = b := ⟨_, rfl⟩
  have hb0 : b = 0 ↔ val l1 = 0 := by rw [← hb]; unfold bl; constructor <;> intro h <;> (try split at h) <;> simp_all
  have hs := g.s
  have hu := g.u
  dsimp only at hs hu hn
  have hbl := fun w1 (hE : Ext w w1) => (bitlen_ok w1.heap _ A1 n1 c1 l1 (hs.ext hE) hu hn).cl
  rw [hb] at hbl
  by_cases h0 : b = 0
  · have e : sig (ival ⟨yn, ⟨A1, n1, c1, l1⟩⟩) = 0 := by have := hb0.1 h0; simp [sig, ival, sgn, this]
    rw [e]
    refine enter Tryz.func50 rfl rfl rfl ?_
    have hF := Fr.refl w
    repeat' (first | (refine TL.isOp ?_; first | (refine TL.isCall ?_; refine TL.call rfl rfl ?_; first | (refine (hbl _ hF.ext).mono ?_; rintro _ w1 ⟨rfl, hE⟩; replace hF := hF.exts hE.ext; clear hE; refine Back.mk ?_)) | (refine TL.isBin ?_; refine TL.cmpG rfl rfl rfl rfl (fun hc => ?_) (fun hc => ?_) <;> (try (first | (exfalso; omega) | exact absurd rfl hc))) | (apply TL.ev; (case hd => rfl); (case h => (first | exact ev_simple rfl | (apply Ev.isLoad; first | exact ev_loadFr hF rfl (by refine ⟨?_, ?_⟩; (focus (repeat (first | exact InV.head | apply InV.tail))); rfl)) | exact ev_fieldAddr rfl))) | (refine TL.boxAFr hF (d := 1) (cs := [.bool yn, .slice A1 n1 c1]) rfl rfl ?_; clear hF; intro w1 b1 hF)) | (refine T.is ?_; first | refine T.seq ?_ | refine T.region ?_ | refine T.block ?_ | refine T.cond_t rfl ?_ | refine T.ret ?_) | (refine G.is ?_; first | refine G.next ?_ | refine G.blockR ?_ | refine G.thenR ?_) | refine TL.nil ?_)
    exact G.ret1 rfl rfl ⟨rfl, hF.ext⟩
  · have h1 : val l1 ≠ 0 := fun h => h0 (hb0.2 h)
    cases yn with
    | true =>
      have e : sig (ival ⟨true, ⟨A1, n1, c1, l1⟩⟩) = -1 := by simp only [sig, ival, sgn, if_true]; rw [if_pos (by omega)]
      rw [e]
      refine enter Tryz.func50 rfl rfl rfl ?_
      have hF := Fr.refl w
      repeat' (first | (refine TL.isOp ?_; first | (refine TL.isCall ?_; refine TL.call rfl rfl ?_; first | (refine (hbl _ hF.ext).mono ?_; rintro _ w1 ⟨rfl, hE⟩; replace hF := hF.exts hE.ext; clear hE; refine Back.mk ?_)) | (refine TL.isBin ?_; refine TL.cmpG rfl rfl rfl rfl (fun hc => ?_) (fun hc => ?_) <;> (try (first | (exfalso; omega) | exact absurd rfl hc))) | (apply TL.ev; (case hd => rfl); (case h => (first | exact ev_simple rfl | (apply Ev.isLoad; first | exact ev_loadFr hF rfl (by refine ⟨?_, ?_⟩; (focus (repeat (first | exact InV.head | apply InV.tail))); rfl)) | exact ev_fieldAddr rfl))) | (refine TL.boxAFr hF (d := 1) (cs := [.bool true, .slice A1 n1 c1]) rfl rfl ?_; clear hF; intro w1 b1 hF)) | (refine T.is ?_; first | refine T.seq ?_ | refine T.region ?_ | refine T.block ?_ | refine T.cond_t rfl ?_ | refine T.cond_f rfl ?_ | refine T.ret ?_) | (refine G.is ?_; first | refine G.next ?_ | refine G.blockR ?_ | refine G.thenR ?_) | refine TL.nil ?_)
      exact G.ret1 rfl rfl ⟨rfl, hF.ext⟩
    | false =>
      have e : sig (ival ⟨false, ⟨A1, n1, c1, l1⟩⟩) = 1 := by simp only [sig, ival, sgn, Bool.false_eq_true, if_false]; rw [if_neg (by omega), if_neg (by omega)]
      rw [e]
      refine enter Tryz.func50 rfl rfl rfl ?_
      have hF := Fr.refl w
      repeat' (first | (refine TL.isOp ?_; first | (refine TL.isCall ?_; refine TL.call rfl rfl ?_; first | (refine (hbl _ hF.ext).mono ?_; rintro _ w1 ⟨rfl, hE⟩; replace hF := hF.exts hE.ext; clear hE; refine Back.mk ?_)) | (refine TL.isBin ?_; refine TL.cmpG rfl rfl rfl rfl (fun hc => ?_) (fun hc => ?_) <;> (try (first | (exfalso; omega) | exact absurd rfl hc))) | (apply TL.ev; (case hd => rfl); (case h => (first | exact ev_simple rfl | (apply Ev.isLoad; first | exact ev_loadFr hF rfl (by refine ⟨?_, ?_⟩; (focus (repeat (first | exact InV.head | apply InV.tail))); rfl)) | exact ev_fieldAddr rfl))) | (refine TL.boxAFr hF (d := 1) (cs := [.bool false, .slice A1 n1 c1]) rfl rfl ?_; clear hF; intro w1 b1 hF)) | (refine T.is ?_; first | refine T.seq ?_ | refine T.region ?_ | refine T.block ?_ | refine T.cond_f rfl ?_ | refine T.ret ?_ | refine T.skip ?_) | (refine G.is ?_; first | refine G.next ?_ | refine G.blockN ?_) | refine TL.nil ?_)
      exact G.ret1 rfl rfl ⟨rfl, hF.ext⟩
theorem sig_0 {z : Int} : sig z = 0 ↔ z = 0 := by unfold sig; constructor <;> intro h <;> (repeat' split at *) <;> omega
/-- the place of the first number that is not 0 -/
def LeadOk (Z : Nat → Int) (n j : Nat) : Prop := j ≤ n ∧ (∀ c, c < j → Z c = 0) ∧ (j < n → Z j ≠ 0)
def RetLead (w : World) (Z : Nat → Int) (n : Nat) (e : Ending) (w' : World) : Prop := ∃ j : Nat, e = .returned (.int .i64 (j : Int)) ∧ LeadOk Z n j ∧ Ext w w'
set_option maxRecDepth 100000 in
set_option maxHeartbeats 8000000 in
theorem llead_ok (w : World) (A : Option Addr) (n k k' K : Nat) (l : List IV) (Z : Nat → Int) (hs : Sm 2 ivc w.heap w.heap.size A l.length k' l) (hn : n ≤ l.length) (hA : n = 0 ∨ A.isSome = true) (hl : LsK n l Z K w.heap) (hK : K ≤ 8796093022208) (hn2 : n ≤ 128) :
    Cl Tryz.prog 63 #[.slice A n k] w (RetLead w Z n) := by
  refine enter Tryz.func63 rfl rfl rfl ?_
  have hF := Fr.refl w
  repeat' (first | (refine TL.isOp ?_; first | (apply TL.ev; (case hd => rfl); (case h => (first | exact ev_simple rfl | exact ev_len rfl)))) | (refine T.is ?_; first | refine T.seq ?_ | refine T.region ?_ | refine T.block ?_) | (refine G.is ?_; first | refine G.next ?_) | refine TL.nil ?_)
  refine T.loop (α := Nat) (fun i => [(5, .slice A n k), (6, .int .i64 (n : Int)), (7, .int .i64 (i : Int)), (0, .slice A n k)])
    (fun i w' => i ≤ n ∧ (∀ c, c < i → Z c = 0) ∧ Ext w w') (fun i => n - i) 0 (by repeat (first | exact Sub.nil _ | refine Sub.cons rfl ?_ | refine Sub.cons' rfl (int_congr (by omega)) ?_)) ⟨Nat.zero_le _, fun c hc => absurd hc (Nat.not_lt_zero _), hF.ext⟩ ?_
  clear hF
  rintro i w2 ⟨hi, hz, hE0⟩
  have hF := Fr.refl w2
  rcases Nat.lt_or_ge i n with hin | hin
  · have hy : l[i]? = some (l.getD i default) := by simp [List.getD, show i < l.length by omega]
    have hky := hl i hin
    obtain ⟨⟨yn, ⟨yA, ym, yc, yl⟩⟩, ey⟩ : ∃ y, l.getD i default = y := ⟨_, rfl⟩
    rw [ey] at hy hky
    obtain ⟨hLy, hKy⟩ := hky
    have hsg := fun w1 (hE : Ext w w1) => zsignX w1 ⟨yn, ⟨yA, ym, yc, yl⟩⟩ (hLy.g.ext hE) (by omega)
    rw [hLy.val] at hsg
    by_cases h0 : Z i = 0
    · rw [sig_0.2 h0] at hsg
      repeat' (first | (refine TL.isOp ?_; first | (refine TL.isCall ?_; refine TL.call rfl rfl ?_; first | (refine (hsg _ (hE0.trans hF.ext)).mono ?_; rintro _ w3 ⟨rfl, hE⟩; replace hF := hF.exts hE; clear hE; refine Back.mk ?_)) | (refine TL.isBin ?_; refine TL.cmpG rfl rfl rfl rfl (fun hc => ?_) (fun hc => ?_) <;> (try (first | (exfalso; omega) | exact absurd rfl hc))) | (apply TL.ev; (case hd => rfl); (case h => (first | exact ev_simple rfl | (apply Ev.isBin; first | exact ev_arN rfl rfl rfl (by omega)) | (apply Ev.isLoad; first | exact ev_loadAFr hF rfl (by refine ⟨?_, ?_⟩; (focus (repeat (first | exact InV.head | apply InV.tail))); rfl) | exact ev_loadM rfl (hs.ext (hE0.trans hF.ext)) hy) | exact ev_indexM rfl rfl hin hA))) | (refine TL.storeAFr hF rfl rfl rfl rfl (by refine ⟨?_, ?_⟩; (focus (repeat (first | apply SetV.head | apply SetV.tail))); rfl) rfl ?_; clear hF; intro ws hF) | (refine TL.allocFr hF (d := 4) rfl rfl ?_; clear hF; intro w4 b4 hF)) | (refine T.is ?_; first | refine T.seq ?_ | refine T.region ?_ | refine T.block ?_ | refine T.cond_t rfl ?_ | refine T.cond_f rfl ?_ | refine T.skip ?_) | (refine G.is ?_; first | refine G.next ?_ | refine G.blockN ?_) | refine TL.nil ?_)
      exact G.again (i + 1) (by repeat (first | exact Sub.nil _ | refine Sub.cons rfl ?_ | refine Sub.cons' rfl (int_congr (by omega)) ?_)) ⟨hin, (fun c hc => by rcases Nat.lt_or_ge c i with h1 | h1; exact hz c h1; obtain rfl : c = i := (by omega); exact h0), hE0.trans hF.ext⟩ (by omega)
    · obtain ⟨s, hs1, hs0⟩ : ∃ s, sig (Z i) = s ∧ s ≠ 0 := ⟨_, rfl, fun h => h0 (sig_0.1 h)⟩
      rw [hs1] at hsg
      repeat' (first | (refine TL.isOp ?_; first | (refine TL.isCall ?_; refine TL.call rfl rfl ?_; first | (refine (hsg _ (hE0.trans hF.ext)).mono ?_; rintro _ w3 ⟨rfl, hE⟩; replace hF := hF.exts hE; clear hE; refine Back.mk ?_)) | (refine TL.isBin ?_; refine TL.cmpG rfl rfl rfl rfl (fun hc => ?_) (fun hc => ?_) <;> (try (first | (exfalso; omega) | exact absurd rfl hc))) | (apply TL.ev; (case hd => rfl); (case h => (first | exact ev_simple rfl | (apply Ev.isLoad; first | exact ev_loadAFr hF rfl (by refine ⟨?_, ?_⟩; (focus (repeat (first | exact InV.head | apply InV.tail))); rfl) | exact ev_loadM rfl (hs.ext (hE0.trans hF.ext)) hy) | exact ev_indexM rfl rfl hin hA))) | (refine TL.storeAFr hF rfl rfl rfl rfl (by refine ⟨?_, ?_⟩; (focus (repeat (first | apply SetV.head | apply SetV.tail))); rfl) rfl ?_; clear hF; intro ws hF) | (refine TL.allocFr hF (d := 4) rfl rfl ?_; clear hF; intro w4 b4 hF)) | (refine T.is ?_; first | refine T.seq ?_ | refine T.region ?_ | refine T.block ?_ | refine T.cond_t rfl ?_ | refine T.ret ?_ | refine T.skip ?_) | (refine G.is ?_; first | refine G.next ?_ | refine G.blockR ?_ | refine G.thenR ?_) | refine TL.nil ?_)
      exact G.ret1 rfl rfl ⟨i, rfl, ⟨hi, hz, fun _ => h0⟩, hE0.trans hF.ext⟩
  · obtain rfl : i = n := by omega
    repeat' (first | (refine TL.isOp ?_; first | (refine TL.isBin ?_; refine TL.cmpG rfl rfl rfl rfl (fun hc => ?_) (fun hc => ?_) <;> (try (first | (exfalso; omega) | exact absurd rfl hc))) | (apply TL.ev; (case hd => rfl); (case h => (first | exact ev_simple rfl | exact ev_len rfl)))) | (refine T.is ?_; first | refine T.seq ?_ | refine T.region ?_ | refine T.cond_f rfl ?_ | refine T.exit ?_ | refine T.ret ?_) | (refine G.is ?_; first | refine G.next ?_ | refine G.blockE ?_ | refine G.thenE ?_) | refine TL.nil ?_)
    exact G.ret1 rfl rfl ⟨i, rfl, ⟨hi, hz, fun h => absurd h (Nat.lt_irrefl _)⟩, hE0.trans hF.ext⟩
theorem sdk_get {H : Array Obj} {n K i q : Nat} {s : Sd} {x : RQ} (h : SdK n K s H) (hi : i < n) (hx : s.R.getD i default = x) (hq : q < s.c) : LI H (s.F i q) (x.l.getD q default) ∧ (x.l.getD q default).m.n ≤ K := by
  have := h i hi q hq
  rwa [hx] at this
set_option maxRecDepth 100000 in
set_option maxHeartbeats 8000000 in
theorem ladd_ok (w : World) (n K i j : Nat) (s : Sd) (k : IV) (z : Int) (S : Nat → Prop) (xi xj : RQ) (hS : Shp n s) (hi : i < n) (hj : j < n) (hij : i ≠ j) (hxi : s.R[i]? = some xi) (hxj : s.R[j]? = some xj) (hkn : k.m.n ≤ 8796093022208) (hK : K ≤ 8796093022208)
    (hB : BdW n K (Go.Det.up s.F i (fun c => s.F i c + z * s.F j c))) (hF : Fr w w (sdL s) [dpLI z k, dpSd n K s] S) :
    Cl Tryz.prog 39 #[rowq s.c xi, rowq s.c xj, .agg (ivc k).toArray] w (RetSd w n K s (Go.Det.up s.F i (fun c => s.F i c + z * s.F j c)) S) := by
  have hli : s.R.getD i default = xi := by simp [List.getD, hxi]
  have hlj : s.R.getD j default = xj := by simp [List.getD, hxj]
  have hci := hS.c xi (List.mem_of_getElem? hxi)
  have hcj := hS.c xj (List.mem_of_getElem? hxj)
  have hc2 := hS.c2
  have hRl : i < s.R.length := by rw [hS.n]; exact hi
  obtain ⟨kn, ⟨kA, km, kc, kl⟩⟩ := k
  unfold rowq
  obtain ⟨c, hcc⟩ : ∃ c, s.c = c := ⟨_, rfl⟩
  rw [hcc] at hci hcj hc2 ⊢
  refine enter Tryz.func39 rfl rfl rfl ?_
  repeat' (first | (refine TL.isOp ?_; first | (apply TL.ev; (case hd => rfl); (case h => (first | exact ev_simple rfl | exact ev_len rfl))) | (refine TL.boxAFr hF (d := 5) (cs := [.bool kn, .slice kA km kc]) rfl rfl ?_; clear hF; intro w5 b5 hF)) | (refine T.is ?_; first | refine T.seq ?_ | refine T.region ?_ | refine T.block ?_) | (refine G.is ?_; first | refine G.next ?_) | refine TL.nil ?_)
  refine T.loop (α := Nat × List IV) (fun x => [(7, .slice (some ⟨xi.b, 0, none⟩) c xi.l.length), (8, .int .i64 (c : Int)), (9, .int .i64 (x.1 : Int)), (0, .slice (some ⟨xi.b, 0, none⟩) c xi.l.length), (1, .slice (some ⟨xj.b, 0, none⟩) c xj.l.length), (5, .pointer (some ⟨b5, 0, none⟩))])
    (fun x w' => x.1 ≤ c ∧ x.2.length = xi.l.length ∧ (∀ p, x.1 ≤ p → x.2.getD p default = xi.l.getD p default) ∧ Fr w w' (⟨b5, 43, [.bool kn, .slice kA km kc]⟩ :: sdL (s.up (s.R.set i ⟨xi.b, x.2⟩) s.F)) [dpLI z ⟨kn, ⟨kA, km, kc, kl⟩⟩, dpSd n K s, dpLK c x.2 (fun q => if q < x.1 then s.F i q + z * s.F j q else s.F i q) K] S)
    (fun x => c - x.1) (0, xi.l) (by repeat (first | exact Sub.nil _ | refine Sub.cons rfl ?_ | refine Sub.cons' rfl (int_congr (by omega)) ?_)) ⟨Nat.zero_le _, rfl, fun p _ => rfl, ?_⟩ ?_
  · rw [rq_same hxi]
    have h := (Fr.sd hF (n := n) (K := K) (s := s) (by repeat (first | exact memH | apply memT)) i hi)
    rw [hli, hcc] at h
    exact (Fr.addLK hF (h.congr' (Z' := fun q => if q < 0 then s.F i q + z * s.F j q else s.F i q) fun q hq => by rw [if_neg (Nat.not_lt_zero _)])).weak (.refl _) (allH (by repeat (first | exact memH | apply memT)) (allH (by repeat (first | exact memH | apply memT)) (allH (by repeat (first | exact memH | apply memT)) allN)))
  · clear hF
    rintro ⟨q, zl⟩ w2 ⟨hq, hzl, hzx, hF⟩
    dsimp only at hq hzl hzx hF ⊢
    obtain ⟨hS', hx', hb'⟩ := rq_put (F := s.F) hS hxi hzl
    have hxj' : (s.R.set i ⟨xi.b, zl⟩)[j]? = some xj := by rw [List.getElem?_set_ne hij]; exact hxj
    obtain ⟨s', hs'⟩ : ∃ s', s' = s.up (s.R.set i ⟨xi.b, zl⟩) s.F := ⟨_, rfl⟩
    rcases Nat.lt_or_ge q c with hqn | hqn
    · have hy : zl[q]? = some (zl.getD q default) := by simp [List.getD, show q < zl.length by omega]
      have hyj : xj.l[q]? = some (xj.l.getD q default) := by simp [List.getD, show q < xj.l.length by omega]
      have hky := sdk_get (Fr.sd hF (n := n) (K := K) (s := s) (by repeat (first | exact memH | apply memT))) hi hli (hcc ▸ hqn)
      have hkyj := sdk_get (Fr.sd hF (n := n) (K := K) (s := s) (by repeat (first | exact memH | apply memT))) hj hlj (hcc ▸ hqn)
      rw [← hzx q (Nat.le_refl _)] at hky
      obtain ⟨y, ey⟩ : ∃ y, zl.getD q default = y := ⟨_, rfl⟩
      obtain ⟨yj, eyj⟩ : ∃ y, xj.l.getD q default = y := ⟨_, rfl⟩
      rw [ey] at hy hky
      rw [eyj] at hyj hkyj
      have hyn := hky.2
      have hyjn := hkyj.2
      have hsg := zsignX
      replace hF := Fr.addLI (Fr.addLI hF hky.1) hkyj.1
      clear hky hkyj hsg
      have hF0 := hF
      by_cases h0 : s.F j q = 0
      · repeat' (first | (refine TL.isOp ?_; first | (refine TL.isCall ?_; refine TL.call rfl rfl ?_; first | (refine (zsignX _ yj (Fr.li hF (x := yj) (by repeat (first | exact memH | apply memT))).g (by omega)).mono ?_; rintro _ w1 ⟨rfl, hE⟩; rw [(Fr.li hF (x := yj) (by repeat (first | exact memH | apply memT))).val, sig_0.2 h0]; replace hF := hF.exts hE; clear hE; refine Back.mk ?_)) | (refine TL.isBin ?_; refine TL.cmpG rfl rfl rfl rfl (fun hc => ?_) (fun hc => ?_) <;> (try (first | (exfalso; omega) | exact absurd rfl hc))) | (apply TL.ev; (case hd => rfl); (case h => (first | exact ev_simple rfl | (apply Ev.isBin; first | exact ev_arN rfl rfl rfl (by omega)) | (apply Ev.isLoad; first | exact ev_loadM rfl (rowq_sm (r := xj) hF (by repeat (first | exact InV.sdr (s := s.up (s.R.set i ⟨xi.b, zl⟩) s.F) hxj' | apply InV.tail))) hyj) | exact ev_indexM rfl rfl hqn (.inr rfl))))) | (refine T.is ?_; first | refine T.seq ?_ | refine T.region ?_ | refine T.block ?_ | refine T.cond_t rfl ?_ | refine T.cond_f rfl ?_ | refine T.skip ?_) | (refine G.is ?_; first | refine G.next ?_ | refine G.blockN ?_) | refine TL.nil ?_)
        refine G.again (q + 1, zl) (by repeat (first | exact Sub.nil _ | refine Sub.cons rfl ?_ | refine Sub.cons' rfl (int_congr (by omega)) ?_)) ⟨by dsimp only; omega, hzl, (fun p hp => hzx p (by omega)), Fr.weak (Fr.addLK hF ((Fr.lk hF (i := c) (l := zl) (by repeat (first | exact memH | apply memT))).congr' (Z' := fun p => if p < q + 1 then s.F i p + z * s.F j p else s.F i p) fun p hp => ?_)) (.refl _) (allH (by repeat (first | exact memH | apply memT)) (allH (by repeat (first | exact memH | apply memT)) (allH (by repeat (first | exact memH | apply memT)) allN)))⟩ (by dsimp only; omega)
        by_cases h1 : p < q
        · simp [h1, show p < q + 1 by omega]
        · by_cases h2 : p = q
          · subst h2; simp [h0]
          · simp [h1, show ¬ p < q + 1 by omega]
      · obtain ⟨sg, hs1, hs0⟩ : ∃ sg, sig (s.F j q) = sg ∧ sg ≠ 0 := ⟨_, rfl, fun h => h0 (sig_0.1 h)⟩
        repeat' (first | (refine TL.isOp ?_; first | (refine TL.isCall ?_; refine TL.call rfl rfl ?_; first | (refine (zsignX _ yj (Fr.li hF (x := yj) (by repeat (first | exact memH | apply memT))).g (by omega)).mono ?_; rintro _ w1 ⟨rfl, hE⟩; rw [(Fr.li hF (x := yj) (by repeat (first | exact memH | apply memT))).val, hs1]; replace hF := hF.exts hE; clear hE; refine Back.mk ?_) | (refine (zmulAdd_ok _ ⟨kn, ⟨kA, km, kc, kl⟩⟩ yj y (Fr.li hF (z := z) (by repeat (first | exact memH | apply memT))).g (Fr.li hF (x := yj) (by repeat (first | exact memH | apply memT))).g (Fr.li hF (x := y) (by repeat (first | exact memH | apply memT))).g (by dsimp only at *; omega) (by omega) (by omega)).mono ?_; rintro _ w1 ⟨u, rfl, hLu, hE, hKu⟩; rw [(Fr.li hF (x := y) (by repeat (first | exact memH | apply memT))).val, (Fr.li hF (x := yj) (by repeat (first | exact memH | apply memT))).val, (Fr.li hF (z := z) (by repeat (first | exact memH | apply memT))).val, Int.add_comm] at hLu; replace hF := Fr.addLI (hF.exts hE) hLu; clear hE hLu; refine Back.mk ?_)) | (refine TL.isBin ?_; refine TL.cmpG rfl rfl rfl rfl (fun hc => ?_) (fun hc => ?_) <;> (try (first | (exfalso; omega) | exact absurd rfl hc))) | (apply TL.ev; (case hd => rfl); (case h => (first | exact ev_simple rfl | (apply Ev.isBin; first | exact ev_arN rfl rfl rfl (by omega)) | (apply Ev.isLoad; first | exact ev_loadM rfl (rowq_sm (r := xj) hF (by repeat (first | exact InV.sdr (s := s.up (s.R.set i ⟨xi.b, zl⟩) s.F) hxj' | apply InV.tail))) hyj) | exact ev_indexM rfl rfl hqn (.inr rfl)))) | (refine TL.storeAtFr hF (f := ivc) u rfl rfl rfl rfl (fun _ => rfl) (by rw [hzl]; omega) (ivc_noV zl) (by repeat (first | exact SetV.sdr (s := s.up (s.R.set i ⟨xi.b, zl⟩) s.F) (F := s.F) hx' | apply SetV.tail)) ?_; clear hF; intro ws hF)) | (refine TF.is ?_; first | refine TF.nil ?_ | refine TF.e rfl ?_ | (refine TF.pick rfl ?_; first | (apply TFo.ev; (case hd => rfl); (case h => (intro wh hF; first | exact ev_simple rfl | (apply Ev.isLoad; first | exact ev_loadAFr hF rfl (by refine ⟨?_, ?_⟩; (focus (repeat (first | exact InV.head | apply InV.tail))); rfl) | exact ev_loadM rfl (rowq_sm (r := ⟨xi.b, zl⟩) hF (by repeat (first | exact InV.sdr (s := s.up (s.R.set i ⟨xi.b, zl⟩) s.F) hx' | apply InV.tail))) hy | exact ev_loadM rfl (rowq_sm (r := xj) hF (by repeat (first | exact InV.sdr (s := s.up (s.R.set i ⟨xi.b, zl⟩) s.F) hxj' | apply InV.tail))) hyj) | exact ev_indexM rfl rfl hqn (.inr rfl)))))) | (refine T.is ?_; first | refine T.seq ?_ | refine T.region ?_ | refine T.block ?_ | refine T.cond_t rfl ?_ | refine T.skip ?_ | (refine T.regionFr hF 5 13 (.s 0 (.s 1 (.s 2 (.s 3 (.s 4 (.s 5 (.s 6 (.s 7 (.s 8 (.s 9 (.s 10 (.e 11 (.s 12 (.e 13 .nil)))))))))))))) mixed (by kernel_rfl) ?_; clear hF; intro wr hF)) | (refine G.is ?_; first | refine G.next ?_ | refine G.blockN ?_ | refine G.only ?_ | refine G.treeEnd rfl ?_ | refine G.tree rfl (by first | exact hF | exact hF.weak (List.sublist_append_right _ _) (by repeat (first | exact allR | apply allT)) | exact hF.weak (by repeat (first | exact List.Sublist.refl _ | apply List.Sublist.cons)) (by repeat (first | exact allR | apply allT)) | exact hF.weak (by repeat (first | exact List.Sublist.refl _ | apply List.Sublist.cons)) (by repeat (first | exact allN | refine allH (by repeat (first | exact memH | apply memT)) ?_))) ?_) | refine TL.nil ?_)
        have hu := Fr.li hF (x := u) (z := s.F i q + z * s.F j q) (by repeat (first | exact memH | apply memT))
        have hk := (Fr.lk hF (i := c) (l := zl) (Z := fun p => if p < q then s.F i p + z * s.F j p else s.F i p) (K := K) (by repeat (first | exact memH | apply memT))).setAt' (Z' := fun p => if p < q + 1 then s.F i p + z * s.F j p else s.F i p) (u := u) (q := q) (by omega) (by simp only [Nat.lt_succ_self, if_true]; exact hu) (hu.nle' (by have := hB i q hi; rwa [Go.Det.up_eq] at this)) (fun p hp => by by_cases h : p < q <;> simp [h, show p < q + 1 ↔ p < q by omega])
        rw [show (s.up (s.R.set i ⟨xi.b, zl⟩) s.F).R = s.R.set i ⟨xi.b, zl⟩ from rfl, List.set_set] at hF
        exact G.again (q + 1, zl.set q u) (by repeat (first | exact Sub.nil _ | refine Sub.cons rfl ?_ | refine Sub.cons' rfl (int_congr (by omega)) ?_)) ⟨by dsimp only; omega, by rw [List.length_set]; exact hzl, (fun p hp => by rw [getD_set_ne' (by omega)]; exact hzx p (by omega)), (Fr.addLK hF hk).weak (.refl _) (allH (by repeat (first | exact memH | apply memT)) (allH (by repeat (first | exact memH | apply memT)) (allH (by repeat (first | exact memH | apply memT)) allN)))⟩ (by dsimp only; omega)
    · obtain rfl : q = c := by omega
      repeat' (first | (refine TL.isOp ?_; first | (refine TL.isBin ?_; refine TL.cmpG rfl rfl rfl rfl (fun hc => ?_) (fun hc => ?_) <;> (try (first | (exfalso; omega) | exact absurd rfl hc)))) | (refine T.is ?_; first | refine T.seq ?_ | refine T.region ?_ | refine T.cond_f rfl ?_ | refine T.exit ?_) | (refine G.is ?_; first | refine G.next ?_ | refine G.blockE ?_ | refine G.thenE ?_) | refine TL.nil ?_)
      refine G.end0 rfl ⟨rfl, s.R.set i ⟨xi.b, zl⟩, ⟨hS'.n, hS'.c, hS'.c2⟩, by rw [hb'], ?_⟩
      have hk := (Fr.sd hF (n := n) (K := K) (s := s) (by repeat (first | exact memH | apply memT))).set (i := i) (F' := Go.Det.up s.F i (fun c => s.F i c + z * s.F j c)) (x := ⟨xi.b, zl⟩) hRl (by rw [hcc]; exact (Fr.lk hF (i := q) (l := zl) (by repeat (first | exact memH | apply memT))).congr' fun p hp => by simp [hp, Go.Det.up_eq]) (fun p hp => by funext r; exact Go.Det.up_ne hp r)
      exact Fr.addSd (hF.weak (D := []) (.cons _ (.refl _)) allN) hk
end Go.Proofs.YthlbihbchobllaaGreat

namespace Go.Proofs.YthlbihbchobllaaGreat
open Go Go.Eng Go.Proofs Go.NatM Go.RowKit

theorem zneg_ok (w : World) (x : IV) (gx : GI w.heap x) (hx : x.m.n ≤ 8796093022000) : Cl Tryz.prog 40 #[.agg (ivc x).toArray] w (RetZ w (- ival x) x.m.n) := by
  have hs := gx.s
  have hu := gx.u
  obtain ⟨neg, ⟨A, n, c, l⟩⟩ := x
  have hn : n ≤ 35184372088832 := by dsimp only at hx; omega
  have e : - ival ⟨neg, ⟨A, n, c, l⟩⟩ = sgn (!neg) (val l) := by unfold ival sgn; cases neg <;> simp
  rw [e]
  dsimp only at hs hu
  cases neg
  · refine enter Tryz.func40 rfl rfl rfl ?_
    have hF := Fr.refl w
    repeat' (first | (refine TL.isOp ?_; first | (refine TL.isCall ?_; refine TL.call rfl rfl ?_; first | (refine (least_ok _ _ _ _ _ _ (hs.ext hF.ext) hu hn).mono ?_; rintro _ wl ⟨Al, nl, cl, rfl, hOl, hEl, hKl⟩; have hSl := hOl.sl (Nat.le_refl _); replace hF := Fr.addSl (hF.exts hEl) hSl; clear hOl hEl; refine Back.mk ?_) | (refine (of_ok _ _ _ _ _ _ (Fr.sl hF (by repeat (first | exact memH | apply memT)))).mono ?_; rintro _ wo ⟨rfl, hLo, hEo⟩; replace hF := Fr.addLI (hF.exts hEo) hLo; clear hLo hEo; refine Back.mk ?_)) | (refine TL.storeAFr hF rfl rfl rfl rfl (by refine ⟨?_, ?_⟩; (focus (repeat (first | apply SetV.head | apply SetV.tail))); rfl) rfl ?_; clear hF; intro ws hF) | (refine TL.boxAFr hF (d := 1) (cs := [.bool false, .slice A n c]) rfl rfl ?_; clear hF; intro w1 b1 hF) | (refine TL.allocFr hF (d := 2) rfl rfl ?_; clear hF; intro w2 b2 hF)) | (refine TF.is ?_; first | refine TF.nil ?_ | refine TF.e rfl ?_ | (refine TF.pick rfl ?_; first | (apply TFo.ev; (case hd => rfl); (case h => (intro wh hF; first | exact ev_simple rfl | (apply Ev.isLoad; first | exact ev_loadFr hF rfl (by refine ⟨?_, ?_⟩; (focus (repeat (first | exact InV.head | apply InV.tail))); rfl)) | exact ev_fieldAddr rfl))))) | (refine T.is ?_; first | refine T.seq ?_ | refine T.region ?_ | refine T.ret ?_ | (refine T.regionFr hF 1 7 (.s 0 (.s 1 (.s 2 (.s 3 (.s 4 (.e 5 (.e 6 (.e 7 .nil)))))))) mixed (by kernel_rfl) ?_; clear hF; intro wr hF)) | (refine G.is ?_; first | refine G.next ?_ | refine G.only ?_ | refine G.treeEnd rfl ?_ | refine G.tree rfl (by first | exact hF | exact hF.weak (List.sublist_append_right _ _) (by repeat (first | exact allR | apply allT)) | exact hF.weak (by repeat (first | exact List.Sublist.refl _ | apply List.Sublist.cons)) (by repeat (first | exact allR | apply allT)) | exact hF.weak (by repeat (first | exact List.Sublist.refl _ | apply List.Sublist.cons)) (by repeat (first | exact allN | refine allH (by repeat (first | exact memH | apply memT)) ?_))) ?_) | refine TL.nil ?_)
    exact G.retC1 rfl rfl (held_agg (hF.var (by repeat (first | exact InV.head | apply InV.tail))) rfl) ⟨_, rfl, Fr.li hF (by repeat (first | exact memH | apply memT)), hF.ext, hKl⟩
  · refine enter Tryz.func40 rfl rfl rfl ?_
    have hF := Fr.refl w
    repeat' (first | (refine TL.isOp ?_; first | (refine TL.isCall ?_; refine TL.call rfl rfl ?_; first | (refine (least_ok _ _ _ _ _ _ (hs.ext hF.ext) hu hn).mono ?_; rintro _ wl ⟨Al, nl, cl, rfl, hOl, hEl, hKl⟩; have hSl := hOl.sl (Nat.le_refl _); replace hF := Fr.addSl (hF.exts hEl) hSl; clear hOl hEl; refine Back.mk ?_) | (refine (of_ok _ _ _ _ _ _ (Fr.sl hF (by repeat (first | exact memH | apply memT)))).mono ?_; rintro _ wo ⟨rfl, hLo, hEo⟩; replace hF := Fr.addLI (hF.exts hEo) hLo; clear hLo hEo; refine Back.mk ?_)) | (refine TL.storeAFr hF rfl rfl rfl rfl (by refine ⟨?_, ?_⟩; (focus (repeat (first | apply SetV.head | apply SetV.tail))); rfl) rfl ?_; clear hF; intro ws hF) | (refine TL.boxAFr hF (d := 1) (cs := [.bool true, .slice A n c]) rfl rfl ?_; clear hF; intro w1 b1 hF) | (refine TL.allocFr hF (d := 2) rfl rfl ?_; clear hF; intro w2 b2 hF)) | (refine TF.is ?_; first | refine TF.nil ?_ | refine TF.e rfl ?_ | (refine TF.pick rfl ?_; first | (apply TFo.ev; (case hd => rfl); (case h => (intro wh hF; first | exact ev_simple rfl | (apply Ev.isLoad; first | exact ev_loadFr hF rfl (by refine ⟨?_, ?_⟩; (focus (repeat (first | exact InV.head | apply InV.tail))); rfl)) | exact ev_fieldAddr rfl))))) | (refine T.is ?_; first | refine T.seq ?_ | refine T.region ?_ | refine T.ret ?_ | (refine T.regionFr hF 1 7 (.s 0 (.s 1 (.s 2 (.s 3 (.s 4 (.e 5 (.e 6 (.e 7 .nil)))))))) mixed (by kernel_rfl) ?_; clear hF; intro wr hF)) | (refine G.is ?_; first | refine G.next ?_ | refine G.only ?_ | refine G.treeEnd rfl ?_ | refine G.tree rfl (by first | exact hF | exact hF.weak (List.sublist_append_right _ _) (by repeat (first | exact allR | apply allT)) | exact hF.weak (by repeat (first | exact List.Sublist.refl _ | apply List.Sublist.cons)) (by repeat (first | exact allR | apply allT)) | exact hF.weak (by repeat (first | exact List.Sublist.refl _ | apply List.Sublist.cons)) (by repeat (first | exact allN | refine allH (by repeat (first | exact memH | apply memT)) ?_))) ?_) | refine TL.nil ?_)
    exact G.retC1 rfl rfl (held_agg (hF.var (by repeat (first | exact InV.head | apply InV.tail))) rfl) ⟨_, rfl, Fr.li hF (by repeat (first | exact memH | apply memT)), hF.ext, hKl⟩
theorem perm_set {α : Type} : ∀ (l : List α) (j : Nat) (a b : α), l[j]? = some b → (b :: l.set j a).Perm (a :: l)
  | [], j, a, b, h => by simp at h
  | x :: l, 0, a, b, h => by
    simp at h; subst h
    exact List.Perm.swap a x l
  | x :: l, j + 1, a, b, h => by
    rw [List.getElem?_cons_succ] at h
    rw [List.set_cons_succ]
    exact (List.Perm.swap x b _).trans (((perm_set l j a b h).cons x).trans (List.Perm.swap a x l))
theorem perm_swap {α : Type} : ∀ (l : List α) (i j : Nat) (a b : α), l[i]? = some a → l[j]? = some b → ((l.set i b).set j a).Perm l
  | [], i, j, a, b, h, _ => by simp at h
  | x :: l, 0, 0, a, b, h, h' => by simp at h h'; subst h; subst h'; simp
  | x :: l, 0, j + 1, a, b, h, h' => by
    simp at h; subst h
    rw [List.getElem?_cons_succ] at h'
    rw [List.set_cons_zero, List.set_cons_succ]
    exact perm_set l j x b h'
  | x :: l, i + 1, 0, a, b, h, h' => by
    simp at h'; subst h'
    rw [List.getElem?_cons_succ] at h
    rw [List.set_cons_succ, List.set_cons_zero]
    exact perm_set l i x a h
  | x :: l, i + 1, j + 1, a, b, h, h' => by
    rw [List.getElem?_cons_succ] at h h'
    rw [List.set_cons_succ, List.set_cons_succ]
    exact (perm_swap l i j a b h h').cons x
theorem Fr.perm {S : Nat → Prop} {w0 w : World} {L L' : List VB} {D : List DP} (h : Fr w0 w L D S) (hp : L'.Perm L) : Fr w0 w L' D S :=
  ⟨h.exs, fun v hv => h.vars v (hp.mem_iff.1 hv), (hp.pairwise_iff (fun h => Ne.symm h)).2 h.dist, h.data, fun v hv => h.apart v (hp.mem_iff.1 hv)⟩
theorem putO_one : ∀ (vs : List Value) (i : Nat) (v : Value), i < vs.length → putO vs i [v] = some (vs.set i v)
  | [], i, v, h => by simp at h
  | x :: vs, 0, v, h => by cases vs <;> simp [putO]
  | x :: vs, i + 1, v, h => by
    have := putO_one vs i v (by simpa using h)
    simp [putO, this]
theorem all_set {vs : List Value} {i : Nat} {v : Value} (h : vs.all noU64 = true) (hv : noU64 v = true) : (vs.set i v).all noU64 = true := by
  rw [List.all_eq_true]
  intro u hu
  rcases List.mem_or_eq_of_mem_set hu with h1 | h1
  · exact List.all_eq_true.1 h u h1
  · rw [h1]; exact hv
/-- a slice stored into a place of lines -/
theorem TL.storeRow {P : Program} {N : Fm} {Q : Exit → Act → World → Prop} {σ : Store} {S : Nat → Prop} {w0 w : World} {L L' : List VB} {D : List DP} {ops : Array Oper} {t : TypeId} {pos : String} {af : Array Edge} {rest : List Oper} (hF : Fr w0 w L D S) {x y : Operand} {ty e : TypeId} {z : Value} {b1 : Nat} [hS : USize P ty z 1 b1] {g i : Nat} {vs : List Value} {v : Value}
    (hx : Eng.look σ x = some (.pointer (elemA (some ⟨g, 0, none⟩) i))) (hy : Eng.look σ y = some v) (hvs : v.cells.toList = [v]) (h1 : v.oneCell' = true) (hi : i < vs.length) (hn : vs.all noU64 = true) (hL : SetV L g e vs (vs.set i v) L')
    (K : ∀ w', Fr w0 w' L' D S → TL P N .seq ops Q rest σ w') : TL P N .seq ops Q (⟨none, .store ty x y, t, pos, af, none⟩ :: rest) σ w := by
  refine TL.storeFr hF (b := g) (o := i) (by rw [hx]; simp [elemA, add_mk]) hy hvs h1 ⟨hL, ?_⟩ hn K
  exact putO_one vs i v hi
end Go.Proofs.YthlbihbchobllaaGreat

namespace Go.Proofs.YthlbihbchobllaaGreat
open Go Go.Eng Go.Proofs Go.NatM Go.RowKit

/-- a matrix of two rows and columns, as cells -/
def m2c (a b c d : IV) : List Value := [.bool a.neg, .slice a.m.A a.m.n a.m.c, .bool b.neg, .slice b.m.A b.m.n b.m.c, .bool c.neg, .slice c.m.A c.m.n c.m.c, .bool d.neg, .slice d.m.A d.m.n d.m.c]
theorem rq2 {n i j : Nat} {s : Sd} {xi xj : RQ} {zi zj : List IV} {F : Nat → Nat → Int} (hS : Shp n s) (hij : i ≠ j) (hxi : s.R[i]? = some xi) (hxj : s.R[j]? = some xj) (hzi : zi.length = xi.l.length) (hzj : zj.length = xj.l.length) :
    Shp n (s.up ((s.R.set i ⟨xi.b, zi⟩).set j ⟨xj.b, zj⟩) F) ∧ ((s.R.set i ⟨xi.b, zi⟩).set j ⟨xj.b, zj⟩)[i]? = some ⟨xi.b, zi⟩ ∧ ((s.R.set i ⟨xi.b, zi⟩).set j ⟨xj.b, zj⟩)[j]? = some ⟨xj.b, zj⟩ ∧ (((s.R.set i ⟨xi.b, zi⟩).set j ⟨xj.b, zj⟩).map (·.b)) = s.R.map (·.b) := by
  obtain ⟨h1, h2, h3⟩ := rq_put (F := s.F) hS hxi hzi
  have hxj' : (s.up (s.R.set i ⟨xi.b, zi⟩) s.F).R[j]? = some xj := by show (s.R.set i _)[j]? = _; rw [List.getElem?_set_ne hij]; exact hxj
  obtain ⟨k1, k2, k3⟩ := rq_put (F := F) h1 hxj' hzj
  refine ⟨⟨k1.n, k1.c, k1.c2⟩, ?_, k2, k3.trans h3⟩
  rw [List.getElem?_set_ne (fun e => hij e.symm)]; exact h2
theorem lkSet {H : Array Obj} {c q K : Nat} {l : List IV} {X Y : Nat → Int} {u : IV} (h : LsK c l (fun p => if p < q then Y p else X p) K H) (hq : q < l.length) (hu : LI H (Y q) u) (hn : u.m.n ≤ K) : LsK c (l.set q u) (fun p => if p < q + 1 then Y p else X p) K H :=
  h.setAt' (u := u) (q := q) hq (by simp only [Nat.lt_succ_self, if_true]; exact hu) hn (fun p hp => by by_cases h : p < q <;> simp [h, show p < q + 1 ↔ p < q by omega])
set_option maxRecDepth 100000 in
set_option maxHeartbeats 8000000 in
theorem lmix_ok (w : World) (n K i j : Nat) (s : Sd) (a b c d : IV) (za zb zc zd : Int) (S : Nat → Prop) (xi xj : RQ) (hS : Shp n s) (hi : i < n) (hj : j < n) (hij : i ≠ j) (hxi : s.R[i]? = some xi) (hxj : s.R[j]? = some xj)
    (ha : a.m.n ≤ 4398046511104) (hb : b.m.n ≤ 4398046511104) (hc : c.m.n ≤ 4398046511104) (hd : d.m.n ≤ 4398046511104) (hK : K ≤ 4398046511104)
    (hB : BdW n K (Go.Det.mixR s.F i j za zb zc zd)) (hF : Fr w w (sdL s) [dpLI za a, dpLI zb b, dpLI zc c, dpLI zd d, dpSd n K s] S) :
    Cl Tryz.prog 42 #[rowq s.c xi, rowq s.c xj, .agg (m2c a b c d).toArray] w (RetSd w n K s (Go.Det.mixR s.F i j za zb zc zd) S) := by
  have hli : s.R.getD i default = xi := by simp [List.getD, hxi]
  have hlj : s.R.getD j default = xj := by simp [List.getD, hxj]
  have hci := hS.c xi (List.mem_of_getElem? hxi)
  have hcj := hS.c xj (List.mem_of_getElem? hxj)
  have hc2 := hS.c2
  have hRi : i < s.R.length := by rw [hS.n]; exact hi
  have hRj : j < s.R.length := by rw [hS.n]; exact hj
  have hBi : ∀ q, (za * s.F i q + zb * s.F j q).natAbs < WB ^ K := fun q => by have := hB i q hi; rwa [Go.Det.mixR_r] at this
  have hBj : ∀ q, (zc * s.F i q + zd * s.F j q).natAbs < WB ^ K := fun q => by have := hB j q hj; rwa [Go.Det.mixR_q (fun e => hij e.symm)] at this
  obtain ⟨an, ⟨aA, am, ac, al⟩⟩ := a
  obtain ⟨bn, ⟨bA, bm, bc, bl⟩⟩ := b
  obtain ⟨cn, ⟨cA, cm, cc, cl⟩⟩ := c
  obtain ⟨dn, ⟨dA, dm, dc, dl⟩⟩ := d
  dsimp only at ha hb hc hd
  unfold rowq
  obtain ⟨c, hcc⟩ : ∃ c, s.c = c := ⟨_, rfl⟩
  rw [hcc] at hci hcj hc2 ⊢
  refine enter Tryz.func42 rfl rfl rfl ?_
  repeat' (first | (refine TL.isOp ?_; first | (apply TL.ev; (case hd => rfl); (case h => (first | exact ev_simple rfl | exact ev_len rfl))) | (refine TL.boxAFr hF (d := 5) (cs := [.bool an, .slice aA am ac, .bool bn, .slice bA bm bc, .bool cn, .slice cA cm cc, .bool dn, .slice dA dm dc]) rfl rfl ?_; clear hF; intro w5 b5 hF)) | (refine T.is ?_; first | refine T.seq ?_ | refine T.region ?_ | refine T.block ?_) | (refine G.is ?_; first | refine G.next ?_) | refine TL.nil ?_)
  refine T.loop (α := Nat × List IV × List IV) (fun x => [(9, .slice (some ⟨xi.b, 0, none⟩) c xi.l.length), (10, .int .i64 (c : Int)), (11, .int .i64 (x.1 : Int)), (0, .slice (some ⟨xi.b, 0, none⟩) c xi.l.length), (1, .slice (some ⟨xj.b, 0, none⟩) c xj.l.length), (5, .pointer (some ⟨b5, 0, none⟩))])
    (fun x w' => x.1 ≤ c ∧ (x.2.1.length = xi.l.length ∧ x.2.2.length = xj.l.length) ∧ ((∀ p, x.1 ≤ p → x.2.1.getD p default = xi.l.getD p default) ∧ (∀ p, x.1 ≤ p → x.2.2.getD p default = xj.l.getD p default)) ∧ Fr w w' (⟨b5, 84, [.bool an, .slice aA am ac, .bool bn, .slice bA bm bc, .bool cn, .slice cA cm cc, .bool dn, .slice dA dm dc]⟩ :: sdL (s.up ((s.R.set i ⟨xi.b, x.2.1⟩).set j ⟨xj.b, x.2.2⟩) s.F)) [dpLI za ⟨an, ⟨aA, am, ac, al⟩⟩, dpLI zb ⟨bn, ⟨bA, bm, bc, bl⟩⟩, dpLI zc ⟨cn, ⟨cA, cm, cc, cl⟩⟩, dpLI zd ⟨dn, ⟨dA, dm, dc, dl⟩⟩, dpSd n K s, dpLK c x.2.1 (fun q => if q < x.1 then za * s.F i q + zb * s.F j q else s.F i q) K, dpLK c x.2.2 (fun q => if q < x.1 then zc * s.F i q + zd * s.F j q else s.F j q) K] S)
    (fun x => c - x.1) (0, xi.l, xj.l) (by repeat (first | exact Sub.nil _ | refine Sub.cons rfl ?_ | refine Sub.cons' rfl (int_congr (by omega)) ?_)) ⟨Nat.zero_le _, ⟨rfl, rfl⟩, ⟨fun p _ => rfl, fun p _ => rfl⟩, ?_⟩ ?_
  · dsimp only
    rw [rq_same hxi, rq_same hxj]
    have h := (Fr.sd hF (n := n) (K := K) (s := s) (by repeat (first | exact memH | apply memT)) i hi)
    rw [hli, hcc] at h
    have h' := (Fr.sd hF (n := n) (K := K) (s := s) (by repeat (first | exact memH | apply memT)) j hj)
    rw [hlj, hcc] at h'
    exact (Fr.addLK (Fr.addLK hF (h.congr' (Z' := fun q => if q < 0 then za * s.F i q + zb * s.F j q else s.F i q) fun q hq => by rw [if_neg (Nat.not_lt_zero _)])) (h'.congr' (Z' := fun q => if q < 0 then zc * s.F i q + zd * s.F j q else s.F j q) fun q hq => by rw [if_neg (Nat.not_lt_zero _)])).weak (.refl _) (allH (by repeat (first | exact memH | apply memT)) (allH (by repeat (first | exact memH | apply memT)) (allH (by repeat (first | exact memH | apply memT)) (allH (by repeat (first | exact memH | apply memT)) (allH (by repeat (first | exact memH | apply memT)) (allH (by repeat (first | exact memH | apply memT)) (allH (by repeat (first | exact memH | apply memT)) allN)))))))
  · clear hF
    rintro ⟨q, zi, zj⟩ w2 ⟨hq, ⟨hzi, hzj⟩, ⟨hzx, hzy⟩, hF⟩
    dsimp only at hq hzi hzj hzx hzy hF ⊢
    obtain ⟨hS', hx', hxj', hb'⟩ := rq2 (F := s.F) hS hij hxi hxj hzi hzj
    rcases Nat.lt_or_ge q c with hqn | hqn
    · have hy : zi[q]? = some (zi.getD q default) := by simp [List.getD, show q < zi.length by omega]
      have hyj : zj[q]? = some (zj.getD q default) := by simp [List.getD, show q < zj.length by omega]
      have hky := sdk_get (Fr.sd hF (n := n) (K := K) (s := s) (by repeat (first | exact memH | apply memT))) hi hli (hcc ▸ hqn)
      have hkyj := sdk_get (Fr.sd hF (n := n) (K := K) (s := s) (by repeat (first | exact memH | apply memT))) hj hlj (hcc ▸ hqn)
      rw [← hzx q (Nat.le_refl _)] at hky
      rw [← hzy q (Nat.le_refl _)] at hkyj
      obtain ⟨y, ey⟩ : ∃ y, zi.getD q default = y := ⟨_, rfl⟩
      obtain ⟨yj, eyj⟩ : ∃ y, zj.getD q default = y := ⟨_, rfl⟩
      rw [ey] at hy hky
      rw [eyj] at hyj hkyj
      have hyn := hky.2
      have hyjn := hkyj.2
      replace hF := Fr.addLI (Fr.addLI hF hky.1) hkyj.1
      clear hky hkyj
      obtain ⟨s1, hs1⟩ : ∃ s1, s1 = s.up ((s.R.set i ⟨xi.b, zi⟩).set j ⟨xj.b, zj⟩) s.F := ⟨_, rfl⟩
      have hx1 : s1.R[i]? = some ⟨xi.b, zi⟩ := by rw [hs1]; exact hx'
      have hx2 : s1.R[j]? = some ⟨xj.b, zj⟩ := by rw [hs1]; exact hxj'
      have hx3 : ∀ l F, (s1.up (s1.R.set i ⟨xi.b, l⟩) F).R[j]? = some ⟨xj.b, zj⟩ := fun l F => by show (s1.R.set i _)[j]? = _; rw [List.getElem?_set_ne hij]; exact hx2
      rw [← hs1] at hF
      repeat' (first | (refine TL.isOp ?_; first | (refine TL.isCall ?_; refine TL.call rfl rfl ?_; first | (refine (zmul_ok _ ⟨bn, ⟨bA, bm, bc, bl⟩⟩ yj (Fr.li hF (z := zb) (by repeat (first | exact memH | apply memT))).g (Fr.li hF (x := yj) (by repeat (first | exact memH | apply memT))).g (by dsimp only; omega) (by omega)).mono ?_; rintro _ w1 ⟨p, rfl, hLp, hE, hKp⟩; dsimp only at hKp; rw [(Fr.li hF (z := zb) (by repeat (first | exact memH | apply memT))).val, (Fr.li hF (x := yj) (by repeat (first | exact memH | apply memT))).val] at hLp; replace hF := Fr.addLI (hF.exts hE) hLp; clear hE hLp; refine Back.mk ?_) | (refine (zmulAdd_ok _ ⟨an, ⟨aA, am, ac, al⟩⟩ y p (Fr.li hF (z := za) (by repeat (first | exact memH | apply memT))).g (Fr.li hF (x := y) (by repeat (first | exact memH | apply memT))).g (Fr.li hF (x := p) (by repeat (first | exact memH | apply memT))).g (by dsimp only; omega) (by omega) (by omega)).mono ?_; rintro _ w1 ⟨u, rfl, hLu, hE, hKu⟩; rw [(Fr.li hF (x := y) (by repeat (first | exact memH | apply memT))).val, (Fr.li hF (x := p) (by repeat (first | exact memH | apply memT))).val, (Fr.li hF (z := za) (by repeat (first | exact memH | apply memT))).val] at hLu; replace hF := Fr.addLI (hF.exts hE) hLu; clear hE hLu; refine Back.mk ?_) | (refine (zmul_ok _ ⟨dn, ⟨dA, dm, dc, dl⟩⟩ yj (Fr.li hF (z := zd) (by repeat (first | exact memH | apply memT))).g (Fr.li hF (x := yj) (by repeat (first | exact memH | apply memT))).g (by dsimp only; omega) (by omega)).mono ?_; rintro _ w1 ⟨p2, rfl, hLp, hE, hKp2⟩; dsimp only at hKp2; rw [(Fr.li hF (z := zd) (by repeat (first | exact memH | apply memT))).val, (Fr.li hF (x := yj) (by repeat (first | exact memH | apply memT))).val] at hLp; replace hF := Fr.addLI (hF.exts hE) hLp; clear hE hLp; refine Back.mk ?_) | (refine (zmulAdd_ok _ ⟨cn, ⟨cA, cm, cc, cl⟩⟩ y p2 (Fr.li hF (z := zc) (by repeat (first | exact memH | apply memT))).g (Fr.li hF (x := y) (by repeat (first | exact memH | apply memT))).g (Fr.li hF (x := p2) (by repeat (first | exact memH | apply memT))).g (by dsimp only; omega) (by omega) (by omega)).mono ?_; rintro _ w1 ⟨u2, rfl, hLu, hE, hKu2⟩; rw [(Fr.li hF (x := y) (by repeat (first | exact memH | apply memT))).val, (Fr.li hF (x := p2) (by repeat (first | exact memH | apply memT))).val, (Fr.li hF (z := zc) (by repeat (first | exact memH | apply memT))).val] at hLu; replace hF := Fr.addLI (hF.exts hE) hLu; clear hE hLu; refine Back.mk ?_)) | (refine TL.isBin ?_; refine TL.cmpG rfl rfl rfl rfl (fun hc => ?_) (fun hc => ?_) <;> (try (first | (exfalso; omega) | exact absurd rfl hc))) | (apply TL.ev; (case hd => rfl); (case h => (first | exact ev_simple rfl | (apply Ev.isBin; first | exact ev_arN rfl rfl rfl (by omega))))) | (refine TL.storeAFr hF rfl rfl rfl rfl (by refine ⟨?_, ?_⟩; (focus (repeat (first | apply SetV.head | apply SetV.tail))); rfl) rfl ?_; clear hF; intro ws hF) | (refine TL.allocFr hF (d := 7) rfl rfl ?_; clear hF; intro w7 b7 hF) | (refine TL.allocFr hF (d := 8) rfl rfl ?_; clear hF; intro w8 b8 hF) | (refine TL.storeAtFr hF (f := ivc) u rfl rfl rfl rfl (fun _ => rfl) (by rw [hzi]; omega) (ivc_noV zi) (by repeat (first | exact SetV.sdr (F := s.F) hx1 | apply SetV.tail)) ?_; clear hF; intro ws hF) | (refine TL.storeAtFr hF (f := ivc) u2 rfl rfl rfl rfl (fun _ => rfl) (by rw [hzj]; omega) (ivc_noV zj) (by repeat (first | exact SetV.sdr (F := s.F) (hx3 _ _) | apply SetV.tail)) ?_; clear hF; intro ws hF)) | (refine TF.is ?_; first | refine TF.nil ?_ | refine TF.e rfl ?_ | refine TF.alt ?_ ?_ | (refine TF.pick rfl ?_; first | (apply TFo.ev; (case hd => rfl); (case h => (intro wh hF; first | exact ev_simple rfl | (apply Ev.isLoad; first | exact ev_loadAFr hF rfl (by refine ⟨?_, ?_⟩; (focus (repeat (first | exact InV.head | apply InV.tail))); rfl) | exact ev_loadM rfl (rowq_sm (r := ⟨xi.b, zi⟩) hF (by repeat (first | exact InV.sdr hx1 | apply InV.tail))) hy | exact ev_loadM rfl (rowq_sm (r := ⟨xj.b, zj⟩) hF (by repeat (first | exact InV.sdr hx2 | apply InV.tail))) hyj) | exact ev_indexArrS rfl rfl (by omega) | exact ev_indexM rfl rfl hqn (.inr rfl)))))) | (refine T.is ?_; first | refine T.seq ?_ | refine T.region ?_ | refine T.block ?_ | refine T.cond_t rfl ?_ | refine T.skip ?_ | (refine T.regionFr hF 4 11 (.s 0 (.s 1 (.s 2 (.s 3 (.s 4 (.s 5 (.s 6 (.s 7 (.alt (.e 8 (.e 9 (.e 10 (.e 11 .nil)))) (.e 9 (.e 8 (.e 10 (.e 11 .nil))))))))))))) mixed (by kernel_rfl) ?_; clear hF; intro wr hF) | (refine T.regionFr hF 5 13 (.s 0 (.s 1 (.s 2 (.s 3 (.s 4 (.s 5 (.s 6 (.s 7 (.s 8 (.s 9 (.e 10 (.e 11 (.s 12 (.e 13 .nil)))))))))))))) mixed (by kernel_rfl) ?_; clear hF; intro wr hF) | (refine T.regionFr hF 6 13 (.s 0 (.s 1 (.s 2 (.s 3 (.s 4 (.s 5 (.s 6 (.s 7 (.s 8 (.s 9 (.e 10 (.e 11 (.s 12 (.e 13 .nil)))))))))))))) mixed (by kernel_rfl) ?_; clear hF; intro wr hF)) | (refine G.is ?_; first | refine G.next ?_ | refine G.blockN ?_ | refine G.only ?_ | refine G.treeEnd rfl ?_ | refine G.tree rfl (by first | exact hF | exact hF.weak (List.sublist_append_right _ _) (by repeat (first | exact allR | apply allT)) | exact hF.weak (by repeat (first | exact List.Sublist.refl _ | apply List.Sublist.cons)) (by repeat (first | exact allR | apply allT)) | exact hF.weak (by repeat (first | exact List.Sublist.refl _ | apply List.Sublist.cons)) (by repeat (first | exact allN | refine allH (by repeat (first | exact memH | apply memT)) ?_))) ?_) | refine TL.nil ?_)
      all_goals
        have hu := Fr.li hF (x := u) (z := za * s.F i q + zb * s.F j q) (by repeat (first | exact memH | apply memT))
        have hu2 := Fr.li hF (x := u2) (z := zc * s.F i q + zd * s.F j q) (by repeat (first | exact memH | apply memT))
        have hk := lkSet (X := s.F i) (Y := fun p => za * s.F i p + zb * s.F j p) (u := u) (Fr.lk hF (i := c) (l := zi) (K := K) (by repeat (first | exact memH | apply memT))) (by omega) hu (hu.nle' (hBi q))
        have hk2 := lkSet (X := s.F j) (Y := fun p => zc * s.F i p + zd * s.F j p) (u := u2) (Fr.lk hF (i := c) (l := zj) (K := K) (by repeat (first | exact memH | apply memT))) (by omega) hu2 (hu2.nle' (hBj q))
        have e9 : (s1.R.set i ⟨xi.b, zi.set q u⟩).set j ⟨xj.b, zj.set q u2⟩ = (s.R.set i ⟨xi.b, zi.set q u⟩).set j ⟨xj.b, zj.set q u2⟩ := by
          rw [hs1]
          show (((s.R.set i _).set j _).set i _).set j _ = _
          rw [List.set_comm _ _ (fun e => hij e.symm), List.set_set, List.set_set]
        have e8 : sdL ((s1.up (s1.R.set i ⟨xi.b, zi.set q u⟩) s.F).up ((s1.up (s1.R.set i ⟨xi.b, zi.set q u⟩) s.F).R.set j ⟨xj.b, zj.set q u2⟩) s.F) = sdL (s.up ((s.R.set i ⟨xi.b, zi.set q u⟩).set j ⟨xj.b, zj.set q u2⟩) s.F) := by
          show sdL (s1.up ((s1.R.set i _).set j _) s.F) = _
          rw [e9, hs1]; rfl
        rw [e8] at hF
        exact G.again (q + 1, zi.set q u, zj.set q u2) (by repeat (first | exact Sub.nil _ | refine Sub.cons rfl ?_ | refine Sub.cons' rfl (int_congr (by omega)) ?_)) ⟨by dsimp only; omega, ⟨by rw [List.length_set]; exact hzi, by rw [List.length_set]; exact hzj⟩, ⟨(fun p hp => by rw [getD_set_ne' (by omega)]; exact hzx p (by omega)), (fun p hp => by rw [getD_set_ne' (by omega)]; exact hzy p (by omega))⟩, (Fr.addLK (Fr.addLK hF hk) hk2).weak (.cons _ (.cons _ (.refl _))) (allH (by repeat (first | exact memH | apply memT)) (allH (by repeat (first | exact memH | apply memT)) (allH (by repeat (first | exact memH | apply memT)) (allH (by repeat (first | exact memH | apply memT)) (allH (by repeat (first | exact memH | apply memT)) (allH (by repeat (first | exact memH | apply memT)) (allH (by repeat (first | exact memH | apply memT)) allN)))))))⟩ (by dsimp only; omega)
    · obtain rfl : q = c := by omega
      repeat' (first | (refine TL.isOp ?_; first | (refine TL.isBin ?_; refine TL.cmpG rfl rfl rfl rfl (fun hc => ?_) (fun hc => ?_) <;> (try (first | (exfalso; omega) | exact absurd rfl hc)))) | (refine T.is ?_; first | refine T.seq ?_ | refine T.region ?_ | refine T.cond_f rfl ?_ | refine T.exit ?_) | (refine G.is ?_; first | refine G.next ?_ | refine G.blockE ?_ | refine G.thenE ?_) | refine TL.nil ?_)
      refine G.end0 rfl ⟨rfl, (s.R.set i ⟨xi.b, zi⟩).set j ⟨xj.b, zj⟩, ⟨hS'.n, hS'.c, hS'.c2⟩, by rw [hb'], ?_⟩
      have hk := (Fr.sd hF (n := n) (K := K) (s := s) (by repeat (first | exact memH | apply memT))).set (i := i) (F' := Go.Det.up s.F i (fun p => za * s.F i p + zb * s.F j p)) (x := ⟨xi.b, zi⟩) hRi (by rw [hcc]; exact (Fr.lk hF (i := q) (l := zi) (by repeat (first | exact memH | apply memT))).congr' fun p hp => by simp [hp, Go.Det.up_eq]) (fun p hp => by funext r; exact Go.Det.up_ne hp r)
      have hk2 := hk.set (i := j) (F' := Go.Det.mixR s.F i j za zb zc zd) (x := ⟨xj.b, zj⟩) (by show j < (s.R.set i _).length; rw [List.length_set]; exact hRj) (by show LsK s.c _ _ _ _; rw [hcc]; exact (Fr.lk hF (i := q) (l := zj) (by repeat (first | exact memH | apply memT))).congr' fun p hp => by rw [Go.Det.mixR_q (fun e => hij e.symm)]; simp [hp]) (fun p hp => by
        funext r
        show Go.Det.mixR s.F i j za zb zc zd p r = Go.Det.up s.F i (fun p => za * s.F i p + zb * s.F j p) p r
        by_cases hpi : p = i
        · rw [hpi, Go.Det.mixR_r, Go.Det.up_eq]
        · rw [Go.Det.mixR_o hpi hp, Go.Det.up_ne hpi])
      exact Fr.addSd (hF.weak (D := []) (.cons _ (.refl _)) allN) hk2
end Go.Proofs.YthlbihbchobllaaGreat

namespace Go.Proofs.YthlbihbchobllaaGreat
open Go Go.Eng Go.Proofs Go.NatM Go.RowKit

section
variable {S : Nat → Prop} {w0 w w' : World} {Pre Post : List VB} {D D1 : List DP} {s : Sd} {n K : Nat}
def blk (L : List VB) : Nat → Prop := fun k => ∃ v ∈ L, v.b = k
theorem Fr.subP {L1 : List VB} (Pre : List VB) (h : Fr w0 w (Pre ++ L1) D S) (hD : ∀ d ∈ D1, d ∈ D) : Fr w w L1 D1 (blk L1) :=
  Fr.sub (Pre := Pre) (Post := []) (by rw [List.append_nil]; exact h) hD
theorem sd_perm {R' : List RQ} {F' : Nat → Nat → Int} (hp : (R'.map (·.b)).Perm (s.R.map (·.b))) : ((sdL (s.up R' F')).map (·.b)).Perm ((sdL s).map (·.b)) := by
  rw [sdL_b, sdL_b]; exact hp.cons _
theorem one_fp {n K : Nat} {s : Sd} : ∀ d ∈ [dpSd n K s], ∀ k, ¬ d.fp k := fun d hd k => by rw [List.mem_singleton.1 hd]; exact dpSd_fp
theorem Fr.retSd (Pre : List VB) (h : Fr w0 w (Pre ++ sdL s) D S) {R' : List RQ} {F' : Nat → Nat → Int} (hp : (R'.map (·.b)).Perm (s.R.map (·.b))) (hc : Fr w w' (sdL (s.up R' F')) [dpSd n K (s.up R' F')] (blk (sdL s))) :
    Fr w0 w' (Pre ++ sdL (s.up R' F')) (dpSd n K (s.up R' F') :: D) S := by
  have := Fr.call (Pre := Pre) (Post := []) (by rw [List.append_nil]; exact h) hc (fun k hk => hk) (sd_perm hp) (sdL_no s) one_fp
  rwa [List.append_nil] at this
end
theorem sd_get {n i : Nat} {s : Sd} (hS : Shp n s) (hi : i < n) : ∃ x, s.R[i]? = some x := ⟨_, (hS.at hi).choose_spec.1⟩
def capV (g n : Nat) : List Value := [.slice (some ⟨g, 0, none⟩) n n]
set_option maxRecDepth 100000 in
set_option maxHeartbeats 8000000 in
theorem like_swap (w : World) (n K i j v : Nat) (s : Sd) (S : Nat → Prop) (hS : Shp n s) (hi : i < n) (hj : j < n) (hij : i ≠ j) (hF : Fr w w (sdL s) [dpVr v 48 (capV s.g n), dpSd n K s] S) :
    Cl Tryz.prog 58 #[.int .i64 (i : Int), .int .i64 (j : Int), .pointer (some ⟨v, 0, none⟩)] w (RetSd w n K s (Go.Det.swp s.F i j) S) := by
  obtain ⟨x, hx⟩ := sd_get hS hi
  obtain ⟨xj, hxj⟩ := sd_get hS hj
  have hxd : s.R.getD i default = x := by simp [List.getD, hx]
  have hxjd : s.R.getD j default = xj := by simp [List.getD, hxj]
  have hlen : (s.R.map (rowq s.c)).length = n := by rw [List.length_map]; exact hS.n
  have hno : (s.R.map (rowq s.c)).all noU64 = true := by
    rw [List.all_eq_true]
    intro v hv
    obtain ⟨y, _, rfl⟩ := List.mem_map.1 hv
    rfl
  refine enter Tryz.func58 rfl rfl rfl ?_
  unfold sdL at hF
  repeat' (first | (refine TL.isOp ?_; first | (apply TL.ev; (case hd => rfl); (case h => (first | exact ev_rowq hF rfl hx (by repeat (first | exact InV.head | apply InV.tail)) | exact ev_rowq hF rfl hxj (by repeat (first | exact InV.head | apply InV.tail))))) | (refine TL.storeRow hF (i := i) (vs := s.R.map (rowq s.c)) (v := .slice (some ⟨xj.b, 0, none⟩) s.c xj.l.length) rfl rfl rfl rfl (by omega) hno (by repeat (first | apply SetV.head | apply SetV.tail)) ?_; clear hF; intro ws hF) | (refine TL.storeRow hF (i := j) (vs := (s.R.map (rowq s.c)).set i (rowq s.c xj)) (v := .slice (some ⟨x.b, 0, none⟩) s.c x.l.length) rfl rfl rfl rfl (by rw [List.length_set]; omega) (all_set hno rfl) (by repeat (first | apply SetV.head | apply SetV.tail)) ?_; clear hF; intro ws hF)) | (refine TF.is ?_; first | refine TF.nil ?_ | refine TF.e rfl ?_ | refine TF.alt ?_ ?_ | (refine TF.pick rfl ?_; first | (apply TFo.ev; (case hd => rfl); (case h => (intro wh hF; first | exact ev_simple rfl | (apply Ev.isLoad; first | exact ev_loadV rfl (Fr.kept hF (by repeat (first | exact memH | apply memT))) rfl) | exact ev_indexN rfl rfl hi (.inr rfl) | exact ev_indexN rfl rfl hj (.inr rfl)))))) | (refine T.is ?_; first | (refine T.regionFt hF 0 15 (.s 0 (.s 1 (.s 2 (.s 3 (.s 4 (.s 5 (.s 6 (.s 8 (.s 9 (.s 10 (.alt (.e 7 (.e 11 (.s 12 (.e 13 (.s 14 (.e 15 .nil)))))) (.e 11 (.e 7 (.s 12 (.e 13 (.s 14 (.e 15 .nil))))))))))))))))) mixed (by kernel_rfl) ?_; clear hF; intro wr hF)) | (refine G.is ?_; first | refine G.only ?_ | refine G.treeEnd rfl ?_ | refine G.tree rfl (by first | exact hF | exact hF.weak (List.sublist_append_right _ _) (by repeat (first | exact allR | apply allT)) | exact hF.weak (by repeat (first | exact List.Sublist.refl _ | apply List.Sublist.cons)) (by repeat (first | exact allR | apply allT)) | exact hF.weak (by repeat (first | exact List.Sublist.refl _ | apply List.Sublist.cons)) (by repeat (first | exact allN | refine allH (by repeat (first | exact memH | apply memT)) ?_))) ?_) | refine TL.nil ?_)
  all_goals
    have hk : SdK n K (s.up ((s.R.set i xj).set j x) (Go.Det.swp s.F i j)) ws.heap := by
      have h0 := Fr.sd hF (n := n) (K := K) (s := s) (by repeat (first | exact memH | apply memT))
      have hli : i < s.R.length := by rw [hS.n]; exact hi
      have hlj : j < s.R.length := by rw [hS.n]; exact hj
      intro p hp
      show LsK s.c (((s.R.set i xj).set j x).getD p default).l (Go.Det.swp s.F i j p) K _
      by_cases h1 : p = j
      · subst h1
        rw [getD_set_eq' (by rw [List.length_set]; exact hlj), show Go.Det.swp s.F i p p = s.F i from by funext r; unfold Go.Det.swp; rw [if_neg (fun e => hij e.symm), if_pos rfl], ← hxd]
        exact h0 i hi
      · rw [getD_set_ne' h1]
        by_cases h2 : p = i
        · subst h2
          rw [getD_set_eq' hli, show Go.Det.swp s.F p j p = s.F j from by funext r; unfold Go.Det.swp; rw [if_pos rfl], ← hxjd]
          exact h0 j hj
        · rw [getD_set_ne' h2, show Go.Det.swp s.F i j p = s.F p from by funext r; unfold Go.Det.swp; rw [if_neg h2, if_neg h1]]
          exact h0 p hp
    refine G.end0 rfl ⟨rfl, (s.R.set i xj).set j x, ⟨by show ((s.R.set i xj).set j x).length = n; rw [List.length_set, List.length_set]; exact hS.n, fun y hy => ?_, hS.c2⟩, (perm_swap s.R i j x xj hx hxj).map (·.b), ?_⟩
    · rcases List.mem_or_eq_of_mem_set hy with h1 | h1
      · rcases List.mem_or_eq_of_mem_set h1 with h2 | h2
        · exact hS.c y h2
        · rw [h2]; exact hS.c xj (List.mem_of_getElem? hxj)
      · rw [h1]; exact hS.c x (List.mem_of_getElem? hx)
    · have e : ((s.R.set i xj).set j x).map (rowq s.c) = ((s.R.map (rowq s.c)).set i (rowq s.c xj)).set j (rowq s.c x) := by rw [List.map_set, List.map_set]
      refine Fr.addSd (Fr.perm (hF.weak (D := []) (.refl _) allN) ?_) hk
      show (⟨s.g, _, ((s.R.set i xj).set j x).map (rowq s.c)⟩ :: ((s.R.set i xj).set j x).map rqVB).Perm _
      rw [e]
      exact ((perm_swap s.R i j x xj hx hxj).map rqVB).cons _
set_option maxRecDepth 100000 in
set_option maxHeartbeats 8000000 in
theorem like_turn (w : World) (n K i v : Nat) (s : Sd) (S : Nat → Prop) (hS : Shp n s) (hi : i < n) (hK : K ≤ 8796093022000) (hF : Fr w w (sdL s) [dpVr v 48 (capV s.g n), dpSd n K s] S) :
    Cl Tryz.prog 59 #[.int .i64 (i : Int), .pointer (some ⟨v, 0, none⟩)] w (RetSd w n K s (Go.Det.up s.F i (fun c => - s.F i c)) S) := by
  obtain ⟨x, hx⟩ := sd_get hS hi
  have hxd : s.R.getD i default = x := by simp [List.getD, hx]
  have hci := hS.c x (List.mem_of_getElem? hx)
  have hc2 := hS.c2
  have hRl : i < s.R.length := by rw [hS.n]; exact hi
  refine enter Tryz.func59 rfl rfl rfl ?_
  obtain ⟨c, hcc⟩ : ∃ c, s.c = c := ⟨_, rfl⟩
  rw [hcc] at hci hc2
  obtain ⟨gg, hgg⟩ : ∃ g, s.g = g := ⟨_, rfl⟩
  have hrow : ∀ {w' : World} {L' : List VB} {D' : List DP} {l : List IV} {d : Option Tmp} {t : TypeId} {pos : String} {af : Array Edge} {gd : Option (Nat × Bool)} {σ : Store} {y : Operand} (hF : Fr w w' L' D' S) (hy : Eng.look σ y = some (.pointer (elemA (some ⟨s.g, 0, none⟩) i))) (hV : InV L' s.g 22 ((s.R.set i ⟨x.b, l⟩).map (rowq s.c))) (hl : l.length = x.l.length), Ev Tryz.prog σ w'.heap ⟨d, .load 22 y, t, pos, af, gd⟩ (.slice (some ⟨x.b, 0, none⟩) c x.l.length) := by
    intro w' L' D' l d t pos af gd σ y hF hy hV hl
    have := ev_rowq (P := Tryz.prog) (d := d) (t := t) (pos := pos) (af := af) (gd := gd) (ty := 22) (R := s.R.set i ⟨x.b, l⟩) hF hy (by rw [List.getElem?_set, if_pos rfl, if_pos hRl]) hV
    rw [hl, hcc] at this
    exact this
  have hx0 : s.R.set i ⟨x.b, x.l⟩ = s.R := rq_same hx
  repeat' (first | (refine TL.isOp ?_; first | (apply TL.ev; (case hd => rfl); (case h => (first | exact ev_simple rfl | (apply Ev.isLoad; first | exact ev_loadV rfl (Fr.kept hF (by repeat (first | exact memH | apply memT))) rfl) | exact ev_len rfl | exact ev_indexN rfl rfl hi (.inr rfl) | exact (hrow (l := x.l) hF rfl (by rw [hx0]; repeat (first | exact InV.sdg | apply InV.tail)) rfl))))) | (refine T.is ?_; first | refine T.seq ?_ | refine T.region ?_ | refine T.block ?_) | (refine G.is ?_; first | refine G.next ?_) | refine TL.nil ?_)
  refine T.loop (α := Nat × List IV) (fun z => [(0, .int .i64 (i : Int)), (1, .pointer (some ⟨v, 0, none⟩)), (8, .slice (some ⟨x.b, 0, none⟩) c x.l.length), (9, .int .i64 (c : Int)), (10, .int .i64 (z.1 : Int))])
    (fun z w' => z.1 ≤ c ∧ z.2.length = x.l.length ∧ (∀ p, z.1 ≤ p → z.2.getD p default = x.l.getD p default) ∧ Fr w w' (sdL (s.up (s.R.set i ⟨x.b, z.2⟩) s.F)) [dpVr v 48 (capV s.g n), dpSd n K s, dpLK c z.2 (fun q => if q < z.1 then - s.F i q else s.F i q) K] S)
    (fun z => c - z.1) (0, x.l) (by repeat (first | exact Sub.nil _ | refine Sub.cons rfl ?_ | refine Sub.cons' rfl (int_congr (by omega)) ?_)) ⟨Nat.zero_le _, rfl, fun p _ => rfl, ?_⟩ ?_
  · dsimp only
    rw [hx0]
    have h := (Fr.sd hF (n := n) (K := K) (s := s) (by repeat (first | exact memH | apply memT)) i hi)
    rw [hxd, hcc] at h
    exact (Fr.addLK hF (h.congr' (Z' := fun q => if q < 0 then - s.F i q else s.F i q) fun q hq => by rw [if_neg (Nat.not_lt_zero _)])).weak (.refl _) (allH (by repeat (first | exact memH | apply memT)) (allH (by repeat (first | exact memH | apply memT)) (allH (by repeat (first | exact memH | apply memT)) allN)))
  · clear hF
    rintro ⟨q, zl⟩ w2 ⟨hq, hzl, hzx, hF⟩
    dsimp only at hq hzl hzx hF ⊢
    obtain ⟨hS', hx', hb'⟩ := rq_put (F := s.F) hS hx hzl
    rcases Nat.lt_or_ge q c with hqn | hqn
    · have hy : zl[q]? = some (zl.getD q default) := by simp [List.getD, show q < zl.length by omega]
      have hky := sdk_get (Fr.sd hF (n := n) (K := K) (s := s) (by repeat (first | exact memH | apply memT))) hi hxd (hcc ▸ hqn)
      rw [← hzx q (Nat.le_refl _)] at hky
      obtain ⟨y, ey⟩ : ∃ y, zl.getD q default = y := ⟨_, rfl⟩
      rw [ey] at hy hky
      have hkn := hky.2
      replace hF := Fr.addLI hF hky.1
      clear hky
      repeat' (first | (refine TL.isOp ?_; first | (refine TL.isCall ?_; refine TL.call rfl rfl ?_; first | (refine (zneg_ok _ y (Fr.li hF (x := y) (by repeat (first | exact memH | apply memT))).g (by omega)).mono ?_; rintro _ w1 ⟨u, rfl, hLu, hE, hKu⟩; rw [(Fr.li hF (x := y) (by repeat (first | exact memH | apply memT))).val] at hLu; replace hF := Fr.addLI (hF.exts hE) hLu; clear hE hLu; refine Back.mk ?_)) | (refine TL.isBin ?_; refine TL.cmpG rfl rfl rfl rfl (fun hc => ?_) (fun hc => ?_) <;> (try (first | (exfalso; omega) | exact absurd rfl hc))) | (apply TL.ev; (case hd => rfl); (case h => (first | exact ev_simple rfl | (apply Ev.isBin; first | exact ev_arN rfl rfl rfl (by omega)) | (apply Ev.isLoad; first | exact ev_loadM rfl (rowq_sm (r := ⟨x.b, zl⟩) hF (by repeat (first | exact InV.sdr (s := s.up (s.R.set i ⟨x.b, zl⟩) s.F) hx' | apply InV.tail))) hy) | exact ev_indexM rfl rfl hqn (.inr rfl)))) | (refine TL.storeAFr hF rfl rfl rfl rfl (by refine ⟨?_, ?_⟩; (focus (repeat (first | apply SetV.head | apply SetV.tail))); rfl) rfl ?_; clear hF; intro ws hF) | (refine TL.allocFr hF (d := 4) rfl rfl ?_; clear hF; intro w4 b4 hF) | (refine TL.storeAtFr hF (f := ivc) u rfl rfl rfl rfl (fun _ => rfl) (by rw [hzl]; omega) (ivc_noV zl) (by repeat (first | exact SetV.sdr (s := s.up (s.R.set i ⟨x.b, zl⟩) s.F) (F := s.F) hx' | apply SetV.tail)) ?_; clear hF; intro ws hF)) | (refine TF.is ?_; first | refine TF.nil ?_ | refine TF.e rfl ?_ | (refine TF.pick rfl ?_; first | (apply TFo.ev; (case hd => rfl); (case h => (intro wh hF; first | exact ev_simple rfl | (apply Ev.isLoad; first | exact ev_loadAFr hF rfl (by refine ⟨?_, ?_⟩; (focus (repeat (first | exact InV.head | apply InV.tail))); rfl) | exact ev_loadV rfl (Fr.kept hF (by repeat (first | exact memH | apply memT))) rfl) | exact ev_indexN rfl rfl hi (.inr rfl) | exact (hrow (l := zl) hF rfl (by repeat (first | exact InV.sdg (s := s.up (s.R.set i ⟨x.b, zl⟩) s.F) | apply InV.tail)) hzl) | exact ev_indexM rfl rfl hqn (.inr rfl)))))) | (refine T.is ?_; first | refine T.seq ?_ | refine T.region ?_ | refine T.block ?_ | refine T.cond_t rfl ?_ | refine T.skip ?_ | (refine T.regionFr hF 3 8 (.s 0 (.s 1 (.s 2 (.s 3 (.s 4 (.s 5 (.e 6 (.s 7 (.e 8 .nil))))))))) mixed (by kernel_rfl) ?_; clear hF; intro wr hF)) | (refine G.is ?_; first | refine G.next ?_ | refine G.blockN ?_ | refine G.only ?_ | refine G.treeEnd rfl ?_ | refine G.tree rfl (by first | exact hF | exact hF.weak (List.sublist_append_right _ _) (by repeat (first | exact allR | apply allT)) | exact hF.weak (by repeat (first | exact List.Sublist.refl _ | apply List.Sublist.cons)) (by repeat (first | exact allR | apply allT)) | exact hF.weak (by repeat (first | exact List.Sublist.refl _ | apply List.Sublist.cons)) (by repeat (first | exact allN | refine allH (by repeat (first | exact memH | apply memT)) ?_))) ?_) | refine TL.nil ?_)
      have hk := lkSet (X := s.F i) (Y := fun p => - s.F i p) (u := u) (Fr.lk hF (i := c) (l := zl) (K := K) (by repeat (first | exact memH | apply memT))) (by omega) (Fr.li hF (by repeat (first | exact memH | apply memT))) (by omega)
      rw [show (s.up (s.R.set i ⟨x.b, zl⟩) s.F).R = s.R.set i ⟨x.b, zl⟩ from rfl, List.set_set] at hF
      exact G.again (q + 1, zl.set q u) (by repeat (first | exact Sub.nil _ | refine Sub.cons rfl ?_ | refine Sub.cons' rfl (int_congr (by omega)) ?_)) ⟨by dsimp only; omega, by rw [List.length_set]; exact hzl, (fun p hp => by rw [getD_set_ne' (by omega)]; exact hzx p (by omega)), (Fr.addLK hF hk).weak (.cons _ (.refl _)) (allH (by repeat (first | exact memH | apply memT)) (allH (by repeat (first | exact memH | apply memT)) (allH (by repeat (first | exact memH | apply memT)) allN)))⟩ (by dsimp only; omega)
    · obtain rfl : q = c := by omega
      repeat' (first | (refine TL.isOp ?_; first | (refine TL.isBin ?_; refine TL.cmpG rfl rfl rfl rfl (fun hc => ?_) (fun hc => ?_) <;> (try (first | (exfalso; omega) | exact absurd rfl hc)))) | (refine T.is ?_; first | refine T.seq ?_ | refine T.region ?_ | refine T.cond_f rfl ?_ | refine T.exit ?_) | (refine G.is ?_; first | refine G.next ?_ | refine G.blockE ?_ | refine G.thenE ?_) | refine TL.nil ?_)
      refine G.end0 rfl ⟨rfl, s.R.set i ⟨x.b, zl⟩, ⟨hS'.n, hS'.c, hS'.c2⟩, by rw [hb'], ?_⟩
      have hk := (Fr.sd hF (n := n) (K := K) (s := s) (by repeat (first | exact memH | apply memT))).set (i := i) (F' := Go.Det.up s.F i (fun c => - s.F i c)) (x := ⟨x.b, zl⟩) hRl (by rw [hcc]; exact (Fr.lk hF (i := q) (l := zl) (by repeat (first | exact memH | apply memT))).congr' fun p hp => by simp [hp, Go.Det.up_eq]) (fun p hp => by funext r; exact Go.Det.up_ne hp r)
      exact Fr.addSd (hF.weak (D := []) (.refl _) allN) hk
set_option maxRecDepth 100000 in
set_option maxHeartbeats 8000000 in
theorem like_add (w : World) (n K i j v : Nat) (s : Sd) (k : IV) (z : Int) (S : Nat → Prop) (hS : Shp n s) (hi : i < n) (hj : j < n) (hij : i ≠ j) (hkn : k.m.n ≤ 8796093022208) (hK : K ≤ 8796093022208)
    (hB : BdW n K (Go.Det.up s.F i (fun c => s.F i c + z * s.F j c))) (hF : Fr w w (sdL s) [dpLI z k, dpVr v 48 (capV s.g n), dpSd n K s] S) :
    Cl Tryz.prog 60 #[.int .i64 (i : Int), .int .i64 (j : Int), .agg (ivc k).toArray, .pointer (some ⟨v, 0, none⟩)] w (RetSd w n K s (Go.Det.up s.F i (fun c => s.F i c + z * s.F j c)) S) := by
  obtain ⟨x, hx⟩ := sd_get hS hi
  obtain ⟨xj, hxj⟩ := sd_get hS hj
  have hl := fun w1 S' hF' => ladd_ok w1 n K i j s k z S' x xj hS hi hj hij hx hxj hkn hK hB hF'
  obtain ⟨kn, ⟨kA, km, kc, kl⟩⟩ := k
  refine enter Tryz.func60 rfl rfl rfl ?_
  repeat' (first | (refine TL.isOp ?_; first | (refine TL.isCall ?_; refine TL.call rfl rfl ?_; first | (refine (hl _ _ (Fr.subP [_] hF (allH (by repeat (first | exact memH | apply memT)) (allH (by repeat (first | exact memH | apply memT)) allN)))).mono ?_; rintro _ w1 ⟨rfl, R', hS', hp', hF'⟩; replace hF := Fr.retSd [_] hF hp' hF'; clear hF'; refine Back.mk ?_)) | (refine TL.boxAFr hF (d := 6) (cs := [.bool kn, .slice kA km kc]) rfl rfl ?_; clear hF; intro w6 b6 hF)) | (refine TF.is ?_; first | refine TF.nil ?_ | refine TF.e rfl ?_ | (refine TF.pick rfl ?_; first | (apply TFo.ev; (case hd => rfl); (case h => (intro wh hF; first | exact ev_simple rfl | (apply Ev.isLoad; first | exact ev_loadAFr hF rfl (by refine ⟨?_, ?_⟩; (focus (repeat (first | exact InV.head | apply InV.tail))); rfl) | exact ev_loadV rfl (Fr.kept hF (by repeat (first | exact memH | apply memT))) rfl) | exact ev_indexN rfl rfl hi (.inr rfl) | exact ev_indexN rfl rfl hj (.inr rfl) | exact ev_rowq hF rfl hx (by repeat (first | exact InV.sdg | apply InV.tail)) | exact ev_rowq hF rfl hxj (by repeat (first | exact InV.sdg | apply InV.tail))))))) | (refine T.is ?_; first | refine T.seq ?_ | refine T.region ?_ | (refine T.regionFr hF 1 9 (.s 0 (.s 1 (.s 2 (.s 3 (.s 4 (.s 5 (.s 6 (.s 7 (.s 8 (.e 9 .nil)))))))))) mixed (by kernel_rfl) ?_; clear hF; intro wr hF)) | (refine G.is ?_; first | refine G.next ?_ | refine G.only ?_ | refine G.treeEnd rfl ?_) | refine TL.nil ?_)
  exact G.end0 rfl ⟨rfl, R', hS', hp', hF.weak (.cons _ (.refl _)) (allH (by repeat (first | exact memH | apply memT)) allN)⟩
set_option maxRecDepth 100000 in
set_option maxHeartbeats 8000000 in
theorem ag_add (w : World) (n K i j v : Nat) (s : Sd) (k : IV) (z : Int) (S : Nat → Prop) (hS : Shp n s) (hi : i < n) (hj : j < n) (hij : i ≠ j) (hkn : k.m.n ≤ 4398046511104) (hK : K ≤ 8796093022208)
    (hB : BdW n K (Go.Det.up s.F j (fun c => s.F j c + -z * s.F i c))) (hF : Fr w w (sdL s) [dpLI z k, dpVr v 48 (capV s.g n), dpSd n K s] S) :
    Cl Tryz.prog 38 #[.int .i64 (i : Int), .int .i64 (j : Int), .agg (ivc k).toArray, .pointer (some ⟨v, 0, none⟩)] w (RetSd w n K s (Go.Det.up s.F j (fun c => s.F j c + -z * s.F i c)) S) := by
  obtain ⟨x, hx⟩ := sd_get hS hi
  obtain ⟨xj, hxj⟩ := sd_get hS hj
  have hl := fun w1 k S' hkn hF' => ladd_ok w1 n K j i s k (-z) S' xj x hS hj hi (fun e => hij e.symm) hxj hx hkn hK hB hF'
  obtain ⟨kn, ⟨kA, km, kc, kl⟩⟩ := k
  dsimp only at hkn
  refine enter Tryz.func38 rfl rfl rfl ?_
  repeat' (first | (refine TL.isOp ?_; first | (refine TL.isCall ?_; refine TL.call rfl rfl ?_; first | (refine (zneg_ok _ ⟨kn, ⟨kA, km, kc, kl⟩⟩ (Fr.li hF (z := z) (by repeat (first | exact memH | apply memT))).g (by dsimp only; omega)).mono ?_; rintro _ w1 ⟨u, rfl, hLu, hE, hKu⟩; dsimp only at hKu; rw [(Fr.li hF (z := z) (by repeat (first | exact memH | apply memT))).val] at hLu; replace hF := Fr.addLI (hF.exts hE) hLu; clear hE hLu; refine Back.mk ?_) | (refine (hl _ u _ (by omega) (Fr.subP [_] hF (allH (by repeat (first | exact memH | apply memT)) (allH (by repeat (first | exact memH | apply memT)) allN)))).mono ?_; rintro _ w1 ⟨rfl, R', hS', hp', hF'⟩; replace hF := Fr.retSd [_] hF hp' hF'; clear hF'; refine Back.mk ?_)) | (refine TL.boxAFr hF (d := 6) (cs := [.bool kn, .slice kA km kc]) rfl rfl ?_; clear hF; intro w6 b6 hF)) | (refine TF.is ?_; first | refine TF.nil ?_ | refine TF.e rfl ?_ | (refine TF.pick rfl ?_; first | (apply TFo.ev; (case hd => rfl); (case h => (intro wh hF; first | exact ev_simple rfl | (apply Ev.isLoad; first | exact ev_loadAFr hF rfl (by refine ⟨?_, ?_⟩; (focus (repeat (first | exact InV.head | apply InV.tail))); rfl) | exact ev_loadV rfl (Fr.kept hF (by repeat (first | exact memH | apply memT))) rfl) | exact ev_indexN rfl rfl hi (.inr rfl) | exact ev_indexN rfl rfl hj (.inr rfl) | exact ev_rowq hF rfl hx (by repeat (first | exact InV.sdg | apply InV.tail)) | exact ev_rowq hF rfl hxj (by repeat (first | exact InV.sdg | apply InV.tail))))))) | (refine T.is ?_; first | refine T.seq ?_ | refine T.region ?_ | (refine T.regionFr hF 1 10 (.s 0 (.s 1 (.s 2 (.s 3 (.s 4 (.s 5 (.s 6 (.s 7 (.s 8 (.e 9 (.e 10 .nil))))))))))) mixed (by kernel_rfl) ?_; clear hF; intro wr hF)) | (refine G.is ?_; first | refine G.next ?_ | refine G.only ?_ | refine G.treeEnd rfl ?_ | refine G.tree rfl (by first | exact hF | exact hF.weak (List.sublist_append_right _ _) (by repeat (first | exact allR | apply allT)) | exact hF.weak (by repeat (first | exact List.Sublist.refl _ | apply List.Sublist.cons)) (by repeat (first | exact allR | apply allT)) | exact hF.weak (by repeat (first | exact List.Sublist.refl _ | apply List.Sublist.cons)) (by repeat (first | exact allN | refine allH (by repeat (first | exact memH | apply memT)) ?_))) ?_) | refine TL.nil ?_)
  exact G.end0 rfl ⟨rfl, R', hS', hp', hF.weak (.cons _ (.refl _)) (allH (by repeat (first | exact memH | apply memT)) allN)⟩
set_option maxRecDepth 100000 in
set_option maxHeartbeats 8000000 in
theorem like_mix (w : World) (n K i j v : Nat) (s : Sd) (a b c d : IV) (za zb zc zd : Int) (S : Nat → Prop) (hS : Shp n s) (hi : i < n) (hj : j < n) (hij : i ≠ j) (ha : a.m.n ≤ 4398046511104) (hb : b.m.n ≤ 4398046511104) (hc : c.m.n ≤ 4398046511104) (hd : d.m.n ≤ 4398046511104) (hK : K ≤ 4398046511104)
    (hB : BdW n K (Go.Det.mixR s.F i j za zb zc zd)) (hF : Fr w w (sdL s) [dpLI za a, dpLI zb b, dpLI zc c, dpLI zd d, dpVr v 48 (capV s.g n), dpSd n K s] S) :
    Cl Tryz.prog 61 #[.int .i64 (i : Int), .int .i64 (j : Int), .agg (m2c a b c d).toArray, .pointer (some ⟨v, 0, none⟩)] w (RetSd w n K s (Go.Det.mixR s.F i j za zb zc zd) S) := by
  obtain ⟨x, hx⟩ := sd_get hS hi
  obtain ⟨xj, hxj⟩ := sd_get hS hj
  have hl := fun w1 S' hF' => lmix_ok w1 n K i j s a b c d za zb zc zd S' x xj hS hi hj hij hx hxj ha hb hc hd hK hB hF'
  obtain ⟨an, ⟨aA, am, ac, al⟩⟩ := a
  obtain ⟨bn, ⟨bA, bm, bc, bl⟩⟩ := b
  obtain ⟨cn, ⟨cA, cm, cc, cl⟩⟩ := c
  obtain ⟨dn, ⟨dA, dm, dc, dl⟩⟩ := d
  refine enter Tryz.func61 rfl rfl rfl ?_
  repeat' (first | (refine TL.isOp ?_; first | (refine TL.isCall ?_; refine TL.call rfl rfl ?_; first | (refine (hl _ _ (Fr.subP [_] hF (allH (by repeat (first | exact memH | apply memT)) (allH (by repeat (first | exact memH | apply memT)) (allH (by repeat (first | exact memH | apply memT)) (allH (by repeat (first | exact memH | apply memT)) (allH (by repeat (first | exact memH | apply memT)) allN))))))).mono ?_; rintro _ w1 ⟨rfl, R', hS', hp', hF'⟩; replace hF := Fr.retSd [_] hF hp' hF'; clear hF'; refine Back.mk ?_)) | (refine TL.boxAFr hF (d := 6) (cs := [.bool an, .slice aA am ac, .bool bn, .slice bA bm bc, .bool cn, .slice cA cm cc, .bool dn, .slice dA dm dc]) rfl rfl ?_; clear hF; intro w6 b6 hF)) | (refine TF.is ?_; first | refine TF.nil ?_ | refine TF.e rfl ?_ | (refine TF.pick rfl ?_; first | (apply TFo.ev; (case hd => rfl); (case h => (intro wh hF; first | exact ev_simple rfl | (apply Ev.isLoad; first | exact ev_loadV rfl (Fr.kept hF (by repeat (first | exact memH | apply memT))) rfl | exact ev_loadArr hF rfl (by refine ⟨?_, ?_⟩; (focus (repeat (first | exact InV.head | apply InV.tail))); rfl)) | exact ev_indexN rfl rfl hi (.inr rfl) | exact ev_indexN rfl rfl hj (.inr rfl) | exact ev_rowq hF rfl hx (by repeat (first | exact InV.sdg | apply InV.tail)) | exact ev_rowq hF rfl hxj (by repeat (first | exact InV.sdg | apply InV.tail))))))) | (refine T.is ?_; first | refine T.seq ?_ | refine T.region ?_ | (refine T.regionFr hF 1 9 (.s 0 (.s 1 (.s 2 (.s 3 (.s 4 (.s 5 (.s 6 (.s 7 (.s 8 (.e 9 .nil)))))))))) mixed (by kernel_rfl) ?_; clear hF; intro wr hF)) | (refine G.is ?_; first | refine G.next ?_ | refine G.only ?_ | refine G.treeEnd rfl ?_) | refine TL.nil ?_)
  exact G.end0 rfl ⟨rfl, R', hS', hp', hF.weak (.cons _ (.refl _)) (allH (by repeat (first | exact memH | apply memT)) allN)⟩
set_option maxRecDepth 100000 in
set_option maxHeartbeats 8000000 in
theorem ag_mix (w : World) (n K i j v : Nat) (s : Sd) (a b c d : IV) (za zb zc zd : Int) (S : Nat → Prop) (hS : Shp n s) (hi : i < n) (hj : j < n) (hij : i ≠ j) (ha : a.m.n ≤ 4398046511104) (hb : b.m.n ≤ 4398046511104) (hc : c.m.n ≤ 4398046511104) (hd : d.m.n ≤ 4398046511104) (hK : K ≤ 4398046511104)
    (hB : BdW n K (Go.Det.mixR s.F i j zd (-zc) (-zb) za)) (hF : Fr w w (sdL s) [dpLI za a, dpLI zb b, dpLI zc c, dpLI zd d, dpVr v 48 (capV s.g n), dpSd n K s] S) :
    Cl Tryz.prog 41 #[.int .i64 (i : Int), .int .i64 (j : Int), .agg (m2c a b c d).toArray, .pointer (some ⟨v, 0, none⟩)] w (RetSd w n K s (Go.Det.mixR s.F i j zd (-zc) (-zb) za) S) := by
  obtain ⟨x, hx⟩ := sd_get hS hi
  obtain ⟨xj, hxj⟩ := sd_get hS hj
  obtain ⟨an, ⟨aA, am, ac, al⟩⟩ := a
  obtain ⟨bn, ⟨bA, bm, bc, bl⟩⟩ := b
  obtain ⟨cn, ⟨cA, cm, cc, cl⟩⟩ := c
  obtain ⟨dn, ⟨dA, dm, dc, dl⟩⟩ := d
  dsimp only at ha hb hc hd
  have hl := fun w1 u u2 S' hu hu2 hF' => lmix_ok w1 n K i j s ⟨dn, ⟨dA, dm, dc, dl⟩⟩ u u2 ⟨an, ⟨aA, am, ac, al⟩⟩ zd (-zc) (-zb) za S' x xj hS hi hj hij hx hxj hd hu hu2 ha hK hB hF'
  refine enter Tryz.func41 rfl rfl rfl ?_
  repeat' (first | (refine TL.isOp ?_; first | (refine TL.isCall ?_; refine TL.call rfl rfl ?_; first | (refine (zneg_ok _ ⟨cn, ⟨cA, cm, cc, cl⟩⟩ (Fr.li hF (z := zc) (by repeat (first | exact memH | apply memT))).g (by dsimp only; omega)).mono ?_; rintro _ w1 ⟨⟨un, ⟨uA, um, uc, ul⟩⟩, rfl, hLu, hE, hKu⟩; dsimp only at hKu; rw [(Fr.li hF (z := zc) (by repeat (first | exact memH | apply memT))).val] at hLu; replace hF := Fr.addLI (hF.exts hE) hLu; clear hE hLu; refine Back.mk ?_) | (refine (zneg_ok _ ⟨bn, ⟨bA, bm, bc, bl⟩⟩ (Fr.li hF (z := zb) (by repeat (first | exact memH | apply memT))).g (by dsimp only; omega)).mono ?_; rintro _ w1 ⟨⟨tn, ⟨tA, tm, tc, tl⟩⟩, rfl, hLu, hE, hKt⟩; dsimp only at hKt; rw [(Fr.li hF (z := zb) (by repeat (first | exact memH | apply memT))).val] at hLu; replace hF := Fr.addLI (hF.exts hE) hLu; clear hE hLu; refine Back.mk ?_) | (refine (hl _ ⟨un, ⟨uA, um, uc, ul⟩⟩ ⟨tn, ⟨tA, tm, tc, tl⟩⟩ _ (by dsimp only; omega) (by dsimp only; omega) (Fr.subP [_, _] hF (allH (by repeat (first | exact memH | apply memT)) (allH (by repeat (first | exact memH | apply memT)) (allH (by repeat (first | exact memH | apply memT)) (allH (by repeat (first | exact memH | apply memT)) (allH (by repeat (first | exact memH | apply memT)) allN))))))).mono ?_; rintro _ w1 ⟨rfl, R', hS', hp', hF'⟩; replace hF := Fr.retSd [_, _] hF hp' hF'; clear hF'; refine Back.mk ?_)) | (refine TL.storeAFr hF rfl rfl rfl rfl (by refine ⟨?_, ?_⟩; (focus (repeat (first | apply SetV.head | apply SetV.tail))); rfl) rfl ?_; clear hF; intro ws hF) | (refine TL.boxAFr hF (d := 6) (cs := [.bool an, .slice aA am ac, .bool bn, .slice bA bm bc, .bool cn, .slice cA cm cc, .bool dn, .slice dA dm dc]) rfl rfl ?_; clear hF; intro w6 b6 hF) | (refine TL.allocFr hF (d := 7) rfl rfl ?_; clear hF; intro w7 b7 hF)) | (refine TF.is ?_; first | refine TF.nil ?_ | refine TF.e rfl ?_ | refine TF.alt ?_ ?_ | (refine TF.pick rfl ?_; first | (apply TFo.ev; (case hd => rfl); (case h => (intro wh hF; first | exact ev_simple rfl | (apply Ev.isLoad; first | exact ev_loadAFr hF rfl (by refine ⟨?_, ?_⟩; (focus (repeat (first | exact InV.head | apply InV.tail))); rfl) | exact ev_loadV rfl (Fr.kept hF (by repeat (first | exact memH | apply memT))) rfl | exact ev_loadArr hF rfl (by refine ⟨?_, ?_⟩; (focus (repeat (first | exact InV.head | apply InV.tail))); rfl)) | exact ev_indexArrS rfl rfl (by omega) | exact ev_buildArr rfl rfl | exact ev_indexN rfl rfl hi (.inr rfl) | exact ev_indexN rfl rfl hj (.inr rfl) | exact ev_rowq hF rfl hx (by repeat (first | exact InV.sdg | apply InV.tail)) | exact ev_rowq hF rfl hxj (by repeat (first | exact InV.sdg | apply InV.tail))))))) | (refine T.is ?_; first | refine T.seq ?_ | refine T.region ?_ | (refine T.regionFr hF 1 18 (.s 0 (.s 1 (.s 2 (.s 3 (.s 4 (.s 5 (.s 8 (.s 9 (.s 10 (.s 12 (.s 13 (.s 14 (.alt (.e 6 (.s 7 (.alt (.e 11 (.s 15 (.s 16 (.e 17 (.e 18 .nil))))) (.e 17 (.e 11 (.s 15 (.s 16 (.e 18 .nil)))))))) (.e 17 (.e 6 (.s 7 (.e 11 (.s 15 (.s 16 (.e 18 .nil)))))))))))))))))))) mixed (by kernel_rfl) ?_; clear hF; intro wr hF) | (refine T.regionFr hF 2 9 (.s 0 (.s 1 (.s 2 (.s 3 (.s 4 (.s 5 (.s 6 (.s 7 (.s 8 (.e 9 .nil)))))))))) mixed (by kernel_rfl) ?_; clear hF; intro wr hF)) | (refine G.is ?_; first | refine G.next ?_ | refine G.only ?_ | refine G.treeEnd rfl ?_ | refine G.tree rfl (by first | exact hF | exact hF.weak (List.sublist_append_right _ _) (by repeat (first | exact allR | apply allT)) | exact hF.weak (by repeat (first | exact List.Sublist.refl _ | apply List.Sublist.cons)) (by repeat (first | exact allR | apply allT)) | exact hF.weak (by repeat (first | exact List.Sublist.refl _ | apply List.Sublist.cons)) (by repeat (first | exact allN | refine allH (by repeat (first | exact memH | apply memT)) ?_))) ?_) | refine TL.nil ?_)
  all_goals exact G.end0 rfl ⟨rfl, R', hS', hp', hF.weak (.cons _ (.cons _ (.refl _))) (allH (by repeat (first | exact memH | apply memT)) allN)⟩
end Go.Proofs.YthlbihbchobllaaGreat

namespace Go.Det

/-- the size of a number -/
def az (z : Int) : Int := (z.natAbs : Int)
theorem az_nn (z : Int) : 0 ≤ az z := Int.natCast_nonneg _
theorem az_pos {z : Int} (h : 0 ≤ z) : az z = z := by unfold az; omega
theorem az_neg {z : Int} (h : z ≤ 0) : az z = -z := by unfold az; omega
theorem az_bd {z B : Int} : az z ≤ B ↔ Bd B z := by unfold az Bd; omega
theorem az_mul (a b : Int) : az (a * b) = az a * az b := by unfold az; rw [Int.natAbs_mul]; exact Int.natCast_mul _ _
/-- the loop: rests and multipliers -/
structure Eu (A B r0 r1 m0 m1 : Int) : Prop where
  n0 : 0 ≤ r0
  n1 : 0 ≤ r1
  alt : (0 ≤ m0 ∧ m1 ≤ 0) ∨ (m0 ≤ 0 ∧ 0 ≤ m1)
  sum : az m1 * r0 + az m0 * r1 = B
  d0 : B ∣ r0 - m0 * A
  d1 : B ∣ r1 - m1 * A
  dv : ∀ d, (d ∣ r0 ∧ d ∣ r1) ↔ (d ∣ A ∧ d ∣ B)
  b0 : az m0 ≤ B
  b1 : az m1 ≤ B
theorem Eu.start {A B : Int} (hA : 0 ≤ A) (hB : 1 ≤ B) : Eu A B A B 1 0 :=
  ⟨hA, by omega, .inl ⟨by decide, by decide⟩, by rw [show az 0 = 0 from rfl, show az 1 = 1 from rfl]; omega, ⟨0, by omega⟩, ⟨1, by omega⟩, fun d => Iff.rfl, hB, by show (0 : Int) ≤ B; omega⟩
theorem Eu.step {A B r0 r1 m0 m1 : Int} (h : Eu A B r0 r1 m0 m1) (h1 : r1 ≠ 0) : Eu A B r1 (r0 % r1) m1 (m0 - r0 / r1 * m1) := by
  have hp : 0 < r1 := by have := h.n1; omega
  have hq : 0 ≤ r0 / r1 := Int.ediv_nonneg h.n0 h.n1
  have hr := Int.emod_nonneg r0 h1
  have he : r0 % r1 = r0 - r0 / r1 * r1 := by have := Int.emod_add_mul_ediv r0 r1; rw [Int.mul_comm (r0 / r1)]; omega
  have hm : az (m0 - r0 / r1 * m1) = az m0 + r0 / r1 * az m1 := by
    rcases h.alt with ⟨a, b⟩ | ⟨a, b⟩
    · have : r0 / r1 * m1 ≤ 0 := Int.mul_nonpos_of_nonneg_of_nonpos hq b
      rw [az_pos (by omega), az_pos a, az_neg b]; grind
    · have : 0 ≤ r0 / r1 * m1 := Int.mul_nonneg hq b
      rw [az_neg (by omega), az_neg a, az_pos b]; grind
  have hs : az (m0 - r0 / r1 * m1) * r1 + az m1 * (r0 % r1) = B := by
    rw [hm, he, ← h.sum]; grind
  refine ⟨h.n1, hr, ?_, hs, h.d1, ?_, fun d => ?_, h.b1, ?_⟩
  · rcases h.alt with ⟨a, b⟩ | ⟨a, b⟩
    · have : r0 / r1 * m1 ≤ 0 := Int.mul_nonpos_of_nonneg_of_nonpos hq b
      exact .inr ⟨b, by omega⟩
    · have : 0 ≤ r0 / r1 * m1 := Int.mul_nonneg hq b
      exact .inl ⟨b, by omega⟩
  · obtain ⟨s, hs⟩ := h.d0
    obtain ⟨t, ht⟩ := h.d1
    exact ⟨s - r0 / r1 * t, by rw [he]; grind⟩
  · rw [← h.dv d]
    constructor
    · rintro ⟨⟨s, hs⟩, ⟨t, ht⟩⟩
      exact ⟨⟨t + r0 / r1 * s, by grind⟩, ⟨s, hs⟩⟩
    · rintro ⟨⟨s, hs⟩, ⟨t, ht⟩⟩
      exact ⟨⟨t, ht⟩, ⟨s - r0 / r1 * t, by grind⟩⟩
  · have h2 := az_nn (m0 - r0 / r1 * m1)
    have h3 : az (m0 - r0 / r1 * m1) * 1 ≤ az (m0 - r0 / r1 * m1) * r1 := Int.mul_le_mul_of_nonneg_left (by omega) h2
    have h4 : 0 ≤ az m1 * (r0 % r1) := Int.mul_nonneg (az_nn _) hr
    omega
theorem Eu.smaller {r0 r1 : Int} (h : 0 ≤ r1) (h1 : r1 ≠ 0) : (r0 % r1).toNat < r1.toNat := by
  have a := Int.emod_nonneg r0 h1
  have b := Int.emod_lt_of_pos r0 (show 0 < r1 by omega)
  omega
/-- the answer -/
structure ExtOk (a b g x y : Int) : Prop where
  pos : 0 < g
  da : g ∣ a
  db : g ∣ b
  eq : a * x + b * y = g
  bx : Bd (az b) x
  by' : Bd (az a + 1) y
theorem Eu.fin {a b r0 m0 m1 : Int} (hb : b ≠ 0) (h : Eu (az a) (az b) r0 0 m0 m1) :
    (r0 ≠ 0 ∧ r0 ∣ b) ∧ b ∣ r0 - a * ((if a < 0 then -m0 else m0) % (b / r0)) ∧ ExtOk a b r0 ((if a < 0 then -m0 else m0) % (b / r0)) ((r0 - a * ((if a < 0 then -m0 else m0) % (b / r0))) / b) := by
  have hB : 0 < az b := by unfold az; omega
  have hs := h.sum
  rw [Int.mul_zero, Int.add_zero] at hs
  have hr0 : r0 ≠ 0 := fun e => by rw [e, Int.mul_zero] at hs; omega
  have hrp : 0 < r0 := by have := h.n0; omega
  have hd := (h.dv r0).1 ⟨Int.dvd_refl _, Int.dvd_zero _⟩
  have hab : ∀ z : Int, az z = z ∨ az z = -z := fun z => by unfold az; omega
  have hda : r0 ∣ a := by
    rcases hab a with e | e
    · rw [← e]; exact hd.1
    · rw [e] at hd; exact Int.dvd_neg.1 hd.1
  have hdb : r0 ∣ b := by
    rcases hab b with e | e
    · rw [← e]; exact hd.2
    · rw [e] at hd; exact Int.dvd_neg.1 hd.2
  obtain ⟨p, hp⟩ := id hdb
  have hpe : b / r0 = p := by rw [hp]; exact Int.mul_ediv_cancel_left _ hr0
  have hp0 : p ≠ 0 := fun e => hb (by rw [hp, e, Int.mul_zero])
  obtain ⟨x0, hx0⟩ : ∃ z, (if a < 0 then -m0 else m0) = z := ⟨_, rfl⟩
  rw [hx0, hpe]
  have hax0 : b ∣ r0 - a * x0 := by
    have h1 : az b ∣ r0 - a * x0 := by
      have := h.d0
      rw [← hx0]
      split
      · rename_i hn
        rw [az_neg (show a ≤ 0 by omega)] at this
        have e : r0 - a * -m0 = r0 - m0 * -a := by grind
        rw [e]; exact this
      · rename_i hn
        rw [az_pos (show 0 ≤ a by omega)] at this
        rw [Int.mul_comm a]; exact this
    rcases hab b with e | e
    · rw [e] at h1; exact h1
    · rw [e] at h1; exact Int.neg_dvd.1 h1
  have hx := Int.emod_nonneg x0 hp0
  have hx2 := Int.emod_lt x0 hp0
  have hm := Int.emod_add_mul_ediv x0 p
  have hax : b ∣ r0 - a * (x0 % p) := by
    obtain ⟨s, hs⟩ := hda
    obtain ⟨t, ht⟩ := hax0
    refine ⟨t + s * (x0 / p), ?_⟩
    have : x0 % p = x0 - p * (x0 / p) := by omega
    rw [this, hp]
    rw [hp] at ht
    grind
  have hpb : az p ≤ az b := by
    rw [hp, az_mul, az_pos (show 0 ≤ r0 by omega)]
    have := Int.mul_le_mul_of_nonneg_right (show 1 ≤ r0 by omega) (az_nn p)
    omega
  have hxb : Bd (az b) (x0 % p) := by
    have : x0 % p < az p := by unfold az; omega
    exact ⟨by omega, by omega⟩
  refine ⟨⟨hr0, hdb⟩, hax, hrp, hda, hdb, ?_, hxb, ?_⟩
  · rw [Int.mul_ediv_cancel' hax]; omega
  · obtain ⟨y, hy⟩ := hax
    rw [hy, Int.mul_ediv_cancel_left _ hb]
    refine az_bd.1 (Int.le_of_mul_le_mul_left ?_ hB)
    rw [← az_mul, ← hy]
    have e1 : az (r0 - a * (x0 % p)) ≤ r0 + az a * (x0 % p) := by
      have e2 : az (a * (x0 % p)) = az a * (x0 % p) := by rw [az_mul, az_pos hx]
      have : az (r0 - a * (x0 % p)) ≤ r0 + az (a * (x0 % p)) := by unfold az; omega
      omega
    have e3 : r0 ≤ az b := by
      have e : az b = r0 * az p := by rw [hp, az_mul, az_pos (show 0 ≤ r0 by omega)]
      have h1 : 1 ≤ az p := by unfold az; omega
      have := Int.mul_le_mul_of_nonneg_left h1 (show 0 ≤ r0 by omega)
      omega
    have e4 : az a * (x0 % p) ≤ az a * az b := Int.mul_le_mul_of_nonneg_left hxb.2 (az_nn a)
    have e5 : az b * (az a + 1) = az a * az b + az b := by grind
    omega
end Go.Det

namespace Go.Det

/-- the first n rows in echelon form, their pivots in the columns J -/
structure Ech (n : Nat) (R : Mx) (J : Nat → Nat) : Prop where
  zero : ∀ i c, i < n → c < J i → R i c = 0
  pos : ∀ i, i < n → 1 ≤ R i (J i)
  inc : ∀ i k, i < k → k < n → J i < J k
theorem Ech.piv {n : Nat} {R : Mx} {J : Nat → Nat} (h : Ech n R J) : Piv n R J := ⟨fun i t hi ht => h.zero i (J t) hi (h.inc t i ht hi), h.pos⟩
/-- numbers behind d steps -/
def gr (K M : Int) : Nat → Int
  | 0 => M
  | d + 1 => (gr K M d + 1) * (K + 1)
theorem gr_nn {K M : Int} (hK : 0 ≤ K) (hM : 0 ≤ M) : ∀ d, 0 ≤ gr K M d
  | 0 => hM
  | d + 1 => Int.mul_nonneg (by have := gr_nn hK hM d; omega) (by omega)
theorem gr_mono {K M : Int} (hK : 0 ≤ K) (hM : 0 ≤ M) : ∀ d e, gr K M d ≤ gr K M (d + e)
  | d, 0 => Int.le_refl _
  | d, e + 1 => by
    have h1 := gr_mono hK hM d e
    have h2 := gr_nn hK hM (d + e)
    have h3 : gr K M (d + (e + 1)) = (gr K M (d + e) + 1) * (K + 1) := rfl
    have h4 := Int.mul_le_mul_of_nonneg_left (show 1 ≤ K + 1 by omega) (show 0 ≤ gr K M (d + e) + 1 by omega)
    omega
/-- within settle: rows below i are reduced, row i is so by the rows ahead of k -/
structure Stl (n : Nat) (R : Mx) (J : Nat → Nat) (B M : Int) (i k : Nat) : Prop where
  ech : Ech n R J
  red : ∀ p, i < p → p < n → Red n R J p
  part : ∀ t, i < t → t < k → t < n → 0 ≤ R i (J t) ∧ R i (J t) < R t (J t)
  mn : Mn n R B
  hi : ∀ p c, p < i → Bd M (R p c)
  own : ∀ c, Bd (gr (n * (B * B)) M (k - i - 1)) (R i c)
section
variable {n : Nat} {R : Mx} {J : Nat → Nat} {B M : Int}
/-- before the first round: all rows within M -/
theorem Stl.start (h : Ech n R J) (hm : Mn n R B) (hb : ∀ p c, p < n → Bd M (R p c)) {i : Nat} (hi : i + 1 = n) : Stl n R J B M i n :=
  ⟨h, fun p h1 h2 => by omega, fun t h1 h2 h3 => by omega, hm, fun p c hp => hb p c (by omega), fun c => by
    rw [show n - i - 1 = 0 by omega]; exact hb i c (by omega)⟩
variable {i k : Nat}
theorem Stl.low (h : Stl n R J B M i k) {p : Nat} (hp : i < p) (hpn : p < n) (c : Nat) : Bd (n * (B * B)) (R p c) := h.ech.piv.bound h.mn hpn (h.red p hp hpn)
/-- row i is reduced: the next one -/
theorem Stl.next (h : Stl n R J B M (i + 1) n) (hi : i + 1 < n) : Stl n R J B M i (i + 1) :=
  ⟨h.ech, fun p h1 h2 => by
    rcases Nat.lt_or_ge (i + 1) p with h3 | h3
    · exact h.red p h3 h2
    · obtain rfl : p = i + 1 := by omega
      exact fun t ht hit => h.part t hit ht ht, fun t h1 h2 => by omega, h.mn, fun p c hp => h.hi p c (by omega), fun c => by
    rw [show i + 1 - i - 1 = 0 by omega]; exact h.hi i c (by omega)⟩
/-- the quotient that settle takes -/
theorem q_bd {X x p : Int} (hX : 0 ≤ X) (hx : Bd X x) (hp : 1 ≤ p) : Bd (X + 1) (x / p) := by
  obtain ⟨h1, h2⟩ := hx
  constructor
  · have : -(X + 1) * p ≤ x := by
      have := Int.mul_le_mul_of_nonneg_left hp (show 0 ≤ X + 1 by omega)
      have e : -(X + 1) * p = -((X + 1) * p) := Int.neg_mul _ _
      omega
    exact (Int.le_ediv_iff_mul_le (by omega)).2 this
  · have h3 : x / p ≤ x ∨ x / p < 0 := by
      rcases Int.le_total 0 x with h | h
      · exact .inl (Int.ediv_le_self _ h)
      · by_cases e : x = 0
        · exact .inl (by rw [e, Int.zero_ediv]; exact Int.le_refl 0)
        · exact .inr (Int.ediv_neg_of_neg_of_pos (by omega) (by omega))
    rcases h3 with h | h <;> omega
theorem Stl.step (h : Stl n R J B M i k) (hik : i < k) (hk : k < n) (hM : 0 ≤ M) (hB : 0 ≤ B) : Stl n (up R i (fun c => R i c + -(R i (J k) / R k (J k)) * R k c)) J B M i (k + 1) := by
  have hne : k ≠ i := by omega
  have hin : i < n := by omega
  have hp := h.ech.pos k hk
  have hK : 0 ≤ (n : Int) * (B * B) := Int.mul_nonneg (Int.natCast_nonneg _) (Int.mul_nonneg hB hB)
  have hX := gr_nn hK hM (k - i - 1)
  refine ⟨⟨fun p c hp hc => ?_, fun p hp => ?_, h.ech.inc⟩, fun p h1 h2 t ht hpt => ?_, fun t h1 h2 h3 => ?_, h.mn.add hin hk hne _, fun p c hp => ?_, fun c => ?_⟩
  · by_cases e : p = i
    · subst e
      rw [up_eq, h.ech.zero p c hp hc, h.ech.zero k c hk (Nat.lt_trans hc (h.ech.inc p k hik hk)), Int.mul_zero]; rfl
    · rw [up_ne e]; exact h.ech.zero p c hp hc
  · by_cases e : p = i
    · subst e
      rw [up_eq, h.ech.zero k (J p) hk (h.ech.inc p k hik hk), Int.mul_zero, Int.add_zero]; exact h.ech.pos p hp
    · rw [up_ne e]; exact h.ech.pos p hp
  · rw [up_ne (show p ≠ i by omega), up_ne (show t ≠ i by omega)]
    exact h.red p h1 h2 t ht hpt
  · rw [up_eq, up_ne (show t ≠ i by omega)]
    by_cases e : t = k
    · subst e
      have h4 := Int.emod_nonneg (R i (J t)) (show R t (J t) ≠ 0 by omega)
      have h5 := Int.emod_lt_of_pos (R i (J t)) (show 0 < R t (J t) by omega)
      have h6 := Int.emod_add_mul_ediv (R i (J t)) (R t (J t))
      have h7 : R i (J t) + -(R i (J t) / R t (J t)) * R t (J t) = R i (J t) % R t (J t) := by rw [Int.neg_mul, Int.mul_comm]; omega
      rw [h7]; exact ⟨h4, h5⟩
    · rw [h.ech.zero k (J t) hk (h.ech.inc t k (by omega) hk), Int.mul_zero, Int.add_zero]
      exact h.part t h1 (by omega) h3
  · rw [up_ne (show p ≠ i by omega)]; exact h.hi p c hp
  · rw [up_eq, show k + 1 - i - 1 = (k - i - 1) + 1 by omega]
    have h1 := h.own c
    have h2 := (q_bd hX (h.own (J k)) hp).neg
    have h3 := h1.add (h2.mul (h.low hik hk c) (by omega) hK)
    refine h3.mono ?_
    show gr _ M (k - i - 1) + (gr _ M (k - i - 1) + 1) * _ ≤ (gr _ M (k - i - 1) + 1) * (_ + 1)
    grind
/-- in the end all are reduced -/
theorem Stl.fin (h : Stl n R J B M 0 n) : ∀ p, p < n → Red n R J p := fun p hp => by
  rcases Nat.eq_zero_or_pos p with e | e
  · subst e; exact fun t ht hpt => h.part t hpt ht ht
  · exact h.red p e hp
end
end Go.Det

namespace Go.Det

/-- numbers behind d meetings -/
def tb (K M : Int) : Nat → Int
  | 0 => M
  | d + 1 => 2 * (K + 1) * ((tb K M d + 1) * (K + 1))
theorem tb_nn {K M : Int} (hK : 0 ≤ K) (hM : 0 ≤ M) : ∀ d, 0 ≤ tb K M d
  | 0 => hM
  | d + 1 => Int.mul_nonneg (by omega) (Int.mul_nonneg (by have := tb_nn hK hM d; omega) (by omega))
theorem tb_step {K M : Int} (hK : 0 ≤ K) (hM : 0 ≤ M) (d : Nat) : (tb K M d + 1) * (K + 1) ≤ tb K M (d + 1) := by
  have h := tb_nn hK hM d
  have h1 : 0 ≤ (tb K M d + 1) * (K + 1) := Int.mul_nonneg (by omega) (by omega)
  have h2 := Int.mul_le_mul_of_nonneg_right (show 1 ≤ 2 * (K + 1) by omega) h1
  show _ ≤ 2 * (K + 1) * ((tb K M d + 1) * (K + 1))
  omega
theorem tb_mono {K M : Int} (hK : 0 ≤ K) (hM : 0 ≤ M) : ∀ {d e : Nat}, d ≤ e → tb K M d ≤ tb K M e := fun {d e} h => by
  obtain ⟨k, rfl⟩ : ∃ k, e = d + k := ⟨e - d, by omega⟩
  clear h
  induction k with
  | zero => exact Int.le_refl _
  | succ k ih =>
    have h1 := tb_step hK hM (d + k)
    have h2 := tb_nn hK hM (d + k)
    have h3 := Int.mul_le_mul_of_nonneg_left (show 1 ≤ K + 1 by omega) (show 0 ≤ tb K M (d + k) + 1 by omega)
    have h4 : tb K M (d + (k + 1)) = tb K M (d + k + 1) := rfl
    omega
/-- within put: n rows in echelon form, row n is zero ahead of column e; rows from m on have not been met -/
structure PutS (n : Nat) (R : Mx) (J : Nat → Nat) (K M : Int) (e m : Nat) : Prop where
  ech : Ech n R J
  zero : ∀ c, c < e → R n c = 0
  mn : m ≤ n
  lt : ∀ p, p < m → J p < e
  low : ∀ p c, p < m → Bd (tb K M m) (R p c)
  high : ∀ p c, m ≤ p → p < n → Bd K (R p c)
  own : ∀ c, Bd (tb K M m) (R n c)
section
variable {n : Nat} {R : Mx} {J : Nat → Nat} {K M : Int} {e m : Nat}
theorem PutS.start (h : Ech n R J) (hK : ∀ p c, p < n → Bd K (R p c)) (hM : ∀ c, Bd M (R n c)) : PutS n R J K M 0 0 :=
  ⟨h, fun c hc => absurd hc (Nat.not_lt_zero _), Nat.zero_le _, fun p hp => absurd hp (Nat.not_lt_zero _), fun p c hp => absurd hp (Nat.not_lt_zero _), fun p c _ hp => hK p c hp, hM⟩
/-- the first number of row n stands in column j, which is row a's pivot column: rows met by now lie ahead of a -/
theorem PutS.ahead (h : PutS n R J K M e m) {j a : Nat} (hj : ∀ c, c < j → R n c = 0) (h0 : R n j ≠ 0) (ha : a < n) (hJ : J a = j) : m ≤ a := by
  rcases Nat.lt_or_ge a m with h1 | h1
  · have h2 := h.lt a h1
    exact absurd (h.zero j (by omega)) h0
  · exact h1
/-- row n less q times row a -/
theorem PutS.sub (h : PutS n R J K M e m) (hK : 0 ≤ K) (hM : 0 ≤ M) {j a : Nat} (hj : ∀ c, c < j → R n c = 0) (h0 : R n j ≠ 0) (ha : a < n) (hJ : J a = j) :
    (∀ c, Bd ((tb K M a + 1) * (K + 1)) (R n c + -(R n j / R a j) * R a c)) ∧ (∀ c, c < j → R n c + -(R n j / R a j) * R a c = 0) ∧ R n j + -(R n j / R a j) * R a j = R n j % R a j ∧ 0 ≤ R n j % R a j ∧ R n j % R a j < R a j ∧ 1 ≤ R a j ∧ Bd (tb K M a + 1) (-(R n j / R a j)) := by
  have hma := h.ahead hj h0 ha hJ
  have hp : 1 ≤ R a j := by rw [← hJ]; exact h.ech.pos a ha
  have hX := tb_nn hK hM a
  have hown : ∀ c, Bd (tb K M a) (R n c) := fun c => (h.own c).mono (tb_mono hK hM hma)
  have hq := (q_bd hX (hown j) hp).neg
  refine ⟨fun c => ?_, fun c hc => ?_, ?_, Int.emod_nonneg _ (by omega), Int.emod_lt_of_pos _ (by omega), hp, hq⟩
  · refine ((hown c).add (hq.mul (h.high a c hma ha) (by omega) hK)).mono ?_
    grind
  · rw [hj c hc, h.ech.zero a c ha (by omega), Int.mul_zero]; rfl
  · have h6 := Int.emod_add_mul_ediv (R n j) (R a j)
    rw [Int.neg_mul, Int.mul_comm]; omega
/-- nothing is left in the column -/
theorem PutS.meet0 (h : PutS n R J K M e m) (hK : 0 ≤ K) (hM : 0 ≤ M) (hKM : K ≤ M) {j a : Nat} (hj : ∀ c, c < j → R n c = 0) (h0 : R n j ≠ 0) (ha : a < n) (hJ : J a = j) (hr : R n j % R a j = 0) :
    PutS n (up R n (fun c => R n c + -(R n j / R a j) * R a c)) J K M (j + 1) (a + 1) := by
  have hma := h.ahead hj h0 ha hJ
  obtain ⟨s1, s2, s3, _⟩ := h.sub hK hM hj h0 ha hJ
  have o : ∀ p c, p < n → up R n (fun c => R n c + -(R n j / R a j) * R a c) p c = R p c := fun p c hp => up_ne (by omega) c
  refine ⟨⟨fun p c hp hc => by rw [o p c hp]; exact h.ech.zero p c hp hc, fun p hp => by rw [o p _ hp]; exact h.ech.pos p hp, h.ech.inc⟩, fun c hc => ?_, ha, fun p hp => ?_, fun p c hp => ?_, fun p c h1 h2 => by rw [o p c h2]; exact h.high p c (by omega) h2, fun c => ?_⟩
  · rw [up_eq]
    rcases Nat.lt_or_ge c j with h1 | h1
    · exact s2 c h1
    · obtain rfl : c = j := by omega
      rw [s3, hr]
  · rcases Nat.lt_or_ge p a with h1 | h1
    · have := h.ech.inc p a h1 ha; omega
    · obtain rfl : p = a := by omega
      omega
  · rw [o p c (by omega)]
    rcases Nat.lt_or_ge p m with h1 | h1
    · exact (h.low p c h1).mono (tb_mono hK hM (by omega))
    · have h3 := tb_mono hK hM (Nat.zero_le (a + 1))
      exact (h.high p c h1 (by omega)).mono (Int.le_trans hKM h3)
  · rw [up_eq]
    exact (s1 c).mono (tb_step hK hM a)
/-- rows a and n mixed: the greatest common divisor stands in row a, nothing in row n -/
theorem PutS.meet1 (h : PutS n R J K M e m) (hK : 0 ≤ K) (hM : 0 ≤ M) (hKM : K ≤ M) {j a : Nat} (hj : ∀ c, c < j → R n c = 0) (h0 : R n j ≠ 0) (ha : a < n) (hJ : J a = j) (hr : R n j % R a j ≠ 0)
    {g x y s t : Int} (hx : ExtOk (R a j) (R n j % R a j) g x y) (hs : R n j % R a j = g * s) (ht : R a j = g * t) :
    PutS n (mixR (up R n (fun c => R n c + -(R n j / R a j) * R a c)) a n x y (-s) t) J K M (j + 1) (a + 1) ∧ x * t - y * -s = 1 := by
  have hma := h.ahead hj h0 ha hJ
  obtain ⟨s1, s2, s3, s4, s5, s6, s7⟩ := h.sub hK hM hj h0 ha hJ
  have hne : a ≠ n := by omega
  obtain ⟨R', hR⟩ : ∃ R' : Mx, R' = up R n (fun c => R n c + -(R n j / R a j) * R a c) := ⟨_, rfl⟩
  have o : ∀ p c, p < n → R' p c = R p c := fun p c hp => by rw [hR]; exact up_ne (by omega) c
  have on : ∀ c, R' n c = R n c + -(R n j / R a j) * R a c := fun c => by rw [hR]; exact up_eq _ _ _ _
  rw [← hR]
  have hg := hx.pos
  have hvp : 0 < R n j % R a j := by omega
  have hdet : x * t - y * -s = 1 := by
    have h1 := hx.eq
    rw [hs, ht] at h1
    have h2 : g * (x * t - y * -s) = g * 1 := by grind
    exact Int.eq_of_mul_eq_mul_left (by omega) h2
  have haj : Bd K (R a j) := h.high a j hma ha
  have hpK : R a j ≤ K := haj.2
  have hsp : 0 < s := by
    rcases Int.lt_or_le 0 s with h1 | h1
    · exact h1
    · have := Int.mul_nonpos_of_nonneg_of_nonpos (show 0 ≤ g by omega) h1; omega
  have htp : 0 < t := by
    rcases Int.lt_or_le 0 t with h1 | h1
    · exact h1
    · have := Int.mul_nonpos_of_nonneg_of_nonpos (show 0 ≤ g by omega) h1; omega
  have hsg : s ≤ g * s := by have := Int.mul_le_mul_of_nonneg_right (show 1 ≤ g by omega) (show 0 ≤ s by omega); omega
  have htg : t ≤ g * t := by have := Int.mul_le_mul_of_nonneg_right (show 1 ≤ g by omega) (show 0 ≤ t by omega); omega
  have bx : Bd (K + 1) x := hx.bx.mono (by rw [az_pos s4]; omega)
  have by1 : Bd (K + 1) y := hx.by'.mono (by rw [az_pos (show 0 ≤ R a j by omega)]; omega)
  have bs : Bd (K + 1) (-s) := ⟨by omega, by omega⟩
  have bt : Bd (K + 1) t := ⟨by omega, by omega⟩
  have hown : ∀ c, Bd (tb K M a) (R n c) := fun c => (h.own c).mono (tb_mono hK hM hma)
  have hX := tb_nn hK hM a
  have mb : ∀ (u v : Int) (c : Nat), Bd (K + 1) u → Bd (K + 1) v → Bd (tb K M (a + 1)) (u * R' a c + v * R' n c) := fun u v c hu hv => by
    rw [o a c ha, on c]
    exact meet_bd hX hK (by omega) s7 (h.high a c hma ha) (hown c) hu hv
  refine ⟨⟨⟨fun p c hp hc => ?_, fun p hp => ?_, h.ech.inc⟩, fun c hc => ?_, ha, fun p hp => ?_, fun p c hp => ?_, fun p c h1 h2 => ?_, fun c => ?_⟩, hdet⟩
  · by_cases e : p = a
    · subst e
      rw [mixR_r, o p c hp, on c, h.ech.zero p c hp hc, hj c (by omega), Int.mul_zero, Int.mul_zero, Int.add_zero, Int.mul_zero]; rfl
    · rw [mixR_o e (by omega), o p c hp]; exact h.ech.zero p c hp hc
  · by_cases e : p = a
    · subst e
      rw [hJ, mixR_r, o p j hp, on j, s3]
      have := hx.eq
      have e1 : x * R p j + y * (R n j % R p j) = g := by rw [← this]; grind
      omega
    · rw [mixR_o e (by omega), o p _ hp]; exact h.ech.pos p hp
  · rw [mixR_q (Ne.symm hne), o a c ha, on c]
    rcases Nat.lt_or_ge c j with h1 | h1
    · rw [s2 c h1, h.ech.zero a c ha (by omega), Int.mul_zero, Int.mul_zero]; rfl
    · obtain rfl : c = j := by omega
      rw [s3, hs]
      have : R a c = g * t := ht
      rw [this]; grind
  · rcases Nat.lt_or_ge p a with h1 | h1
    · have := h.ech.inc p a h1 ha; omega
    · obtain rfl : p = a := by omega
      omega
  · by_cases e : p = a
    · subst e
      rw [mixR_r]; exact mb x y c bx by1
    · rw [mixR_o e (by omega), o p c (by omega)]
      rcases Nat.lt_or_ge p m with h1 | h1
      · exact (h.low p c h1).mono (tb_mono hK hM (by omega))
      · have h3 := tb_mono hK hM (Nat.zero_le (a + 1))
        exact (h.high p c h1 (by omega)).mono (Int.le_trans hKM h3)
  · rw [mixR_o (by omega) (by omega), o p c h2]; exact h.high p c (by omega) h2
  · rw [mixR_q (Ne.symm hne)]; exact mb (-s) t c bs bt
end
end Go.Det

namespace Go.Det

/-- row n brought up to place i, those between one place down -/
def insR (R : Mx) (n i : Nat) : Mx := fun p c => if p < i then R p c else if p = i then R n c else if p ≤ n then R (p - 1) c else R p c
theorem insR_top (R : Mx) (n : Nat) : insR R n n = R := by
  funext p c
  unfold insR
  by_cases h : p < n
  · rw [if_pos h]
  · by_cases e : p = n
    · rw [if_neg h, if_pos e, e]
    · rw [if_neg h, if_neg e, if_neg (by omega)]
theorem insR_step (R : Mx) {n i : Nat} (hi : i < n) : swp (insR R n (i + 1)) (i + 1) i = insR R n i := by
  funext p c
  unfold swp
  by_cases e1 : p = i + 1
  · subst e1
    rw [if_pos rfl]
    unfold insR
    rw [if_pos (Nat.lt_succ_self i), if_neg (by omega), if_neg (by omega), if_pos (by omega)]; rfl
  · by_cases e2 : p = i
    · subst e2
      rw [if_neg e1, if_pos rfl]
      unfold insR
      rw [if_neg (Nat.lt_irrefl _), if_pos rfl, if_neg (Nat.lt_irrefl _), if_pos rfl]
    · rw [if_neg e1, if_neg e2]
      unfold insR
      by_cases h : p < i
      · rw [if_pos (by omega), if_pos h]
      · rw [if_neg (by omega), if_neg e1, if_neg h, if_neg e2]
/-- where the pivots stand then -/
def insJ (J : Nat → Nat) (j i : Nat) : Nat → Nat := fun p => if p < i then J p else if p = i then j else J (p - 1)
theorem insR_ech {n i j : Nat} {R : Mx} {J : Nat → Nat} (h : Ech n R J) (hi : i ≤ n) (hz : ∀ c, c < j → R n c = 0) (hp : 1 ≤ R n j) (h1 : ∀ p, p < i → J p < j) (h2 : ∀ p, i ≤ p → p < n → j < J p) : Ech (n + 1) (insR R n i) (insJ J j i) := by
  refine ⟨fun p c hp hc => ?_, fun p hp => ?_, fun p q hpq hq => ?_⟩
  · unfold insR
    unfold insJ at hc
    by_cases a : p < i
    · rw [if_pos a] at hc ⊢; exact h.zero p c (by omega) hc
    · by_cases b : p = i
      · rw [if_neg a, if_pos b] at hc ⊢; exact hz c hc
      · rw [if_neg a, if_neg b] at hc ⊢
        rw [if_pos (by omega)]
        exact h.zero (p - 1) c (by omega) hc
  · unfold insR insJ
    by_cases a : p < i
    · rw [if_pos a, if_pos a]; exact h.pos p (by omega)
    · by_cases b : p = i
      · rw [if_neg a, if_pos b, if_neg a, if_pos b]; assumption
      · rw [if_neg a, if_neg b, if_neg a, if_neg b, if_pos (by omega)]
        exact h.pos (p - 1) (by omega)
  · unfold insJ
    by_cases a : q < i
    · rw [if_pos (by omega), if_pos a]; exact h.inc p q hpq (by omega)
    · by_cases b : q = i
      · rw [if_pos (by omega), if_neg a, if_pos b]; exact h1 p (by omega)
      · rw [if_neg a, if_neg b]
        by_cases a' : p < i
        · rw [if_pos a']
          have h3 := h1 p a'
          have h4 := h2 (q - 1) (by omega) (by omega)
          omega
        · by_cases b' : p = i
          · rw [if_neg a', if_pos b']; exact h2 (q - 1) (by omega) (by omega)
          · rw [if_neg a', if_neg b']; exact h.inc (p - 1) (q - 1) (by omega) (by omega)
/-- row n times -1 -/
theorem Ech.turn {n : Nat} {R : Mx} {J : Nat → Nat} (h : Ech n R J) (v : Nat → Int) : Ech n (up R n v) J :=
  ⟨fun p c hp hc => by rw [up_ne (by omega)]; exact h.zero p c hp hc, fun p hp => by rw [up_ne (by omega)]; exact h.pos p hp, h.inc⟩
/-- all rows of a state of put within one bound -/
theorem PutS.all {n : Nat} {R : Mx} {J : Nat → Nat} {K M : Int} {e m : Nat} (h : PutS n R J K M e m) (hK : 0 ≤ K) (hM : 0 ≤ M) (hKM : K ≤ M) : ∀ p c, p ≤ n → Bd (tb K M n) (R p c) := fun p c hp => by
  have h1 := tb_mono hK hM h.mn
  have h2 := tb_mono hK hM (Nat.zero_le n)
  rcases Nat.lt_or_ge p n with a | a
  · rcases Nat.lt_or_ge p m with b | b
    · exact (h.low p c b).mono h1
    · exact (h.high p c b a).mono (Int.le_trans hKM h2)
  · obtain rfl : p = n := by omega
    exact (h.own c).mono h1
/-- bounds as powers of two -/
theorem tb_pow {a b : Nat} {K M : Int} (hK : 0 ≤ K) (hM : 0 ≤ M) (hKa : K + 1 ≤ 2 ^ a) (hMb : M + 1 ≤ 2 ^ b) : ∀ d, tb K M d + 1 ≤ 2 ^ (b + d * (2 * a + 2))
  | 0 => by rw [Nat.zero_mul, Nat.add_zero]; exact hMb
  | d + 1 => by
    have ih := tb_pow hK hM hKa hMb d
    have h0 := tb_nn hK hM d
    have p1 : (0 : Int) < 2 ^ a := Int.pow_pos (by decide)
    have p2 : (0 : Int) < 2 ^ (b + d * (2 * a + 2)) := Int.pow_pos (by decide)
    have e1 : (2 : Int) ^ (b + (d + 1) * (2 * a + 2)) = 2 * 2 * (2 ^ a * 2 ^ a * 2 ^ (b + d * (2 * a + 2))) := by
      have : b + (d + 1) * (2 * a + 2) = 1 + 1 + (a + a + (b + d * (2 * a + 2))) := by rw [Nat.add_mul]; omega
      rw [this, Int.pow_add, Int.pow_add, Int.pow_add, Int.pow_add]; rfl
    have h1 : (tb K M d + 1) * (K + 1) ≤ 2 ^ (b + d * (2 * a + 2)) * 2 ^ a := Int.mul_le_mul ih hKa (by omega) (by omega)
    have h2 : (K + 1) * ((tb K M d + 1) * (K + 1)) ≤ 2 ^ a * (2 ^ (b + d * (2 * a + 2)) * 2 ^ a) := Int.mul_le_mul hKa h1 (Int.mul_nonneg (by omega) (by omega)) (by omega)
    have h3 : tb K M (d + 1) = 2 * ((K + 1) * ((tb K M d + 1) * (K + 1))) := Int.mul_assoc _ _ _
    have h4 : (1 : Int) ≤ 2 ^ a * (2 ^ (b + d * (2 * a + 2)) * 2 ^ a) := Int.mul_pos p1 (Int.mul_pos p2 p1)
    have h5 : (2 : Int) ^ a * (2 ^ (b + d * (2 * a + 2)) * 2 ^ a) = 2 ^ a * 2 ^ a * 2 ^ (b + d * (2 * a + 2)) := by grind
    rw [h3, e1]
    rw [h5] at h2 h4
    omega
theorem gr_pow {a b : Nat} {K M : Int} (hK : 0 ≤ K) (hM : 0 ≤ M) (hKa : K + 1 ≤ 2 ^ a) (hMb : M + 1 ≤ 2 ^ b) : ∀ d, gr K M d + 1 ≤ 2 ^ (b + d * (a + 1))
  | 0 => by rw [Nat.zero_mul, Nat.add_zero]; exact hMb
  | d + 1 => by
    have ih := gr_pow hK hM hKa hMb d
    have h0 := gr_nn hK hM d
    have p1 : (0 : Int) < 2 ^ a := Int.pow_pos (by decide)
    have p2 : (0 : Int) < 2 ^ (b + d * (a + 1)) := Int.pow_pos (by decide)
    have e1 : (2 : Int) ^ (b + (d + 1) * (a + 1)) = 2 * (2 ^ (b + d * (a + 1)) * 2 ^ a) := by
      have : b + (d + 1) * (a + 1) = 1 + (b + d * (a + 1) + a) := by rw [Nat.add_mul]; omega
      rw [this, Int.pow_add, Int.pow_add]; rfl
    have h1 : (gr K M d + 1) * (K + 1) ≤ 2 ^ (b + d * (a + 1)) * 2 ^ a := Int.mul_le_mul ih hKa (by omega) (by omega)
    have h4 : (1 : Int) ≤ 2 ^ (b + d * (a + 1)) * 2 ^ a := Int.mul_pos p2 p1
    have h3 : gr K M (d + 1) = (gr K M d + 1) * (K + 1) := rfl
    rw [h3, e1]
    omega
end Go.Det

namespace Go.Det

theorem Wide.nz {n m : Nat} {A F V : Mx} (h : Wide n m A F V) {i : Nat} (hi : i < n) : ∃ c, c < m + n ∧ F i c ≠ 0 := by
  refine Classical.byContradiction fun hn => ?_
  have h0 : ∀ c, c < n → F i (m + c) = 0 := fun c hc => Classical.byContradiction fun h1 => hn ⟨m + c, by omega, h1⟩
  have h1 := h.uw i i hi hi
  rw [sm_zero' fun k hk => by rw [h0 k hk, Int.zero_mul], if_pos rfl] at h1
  omega
theorem two_pow_pos (e : Nat) : (0 : Int) < 2 ^ e := Int.pow_pos (by decide)
theorem two_pow_le {a b : Nat} (h : a ≤ b) : (2 : Int) ^ a ≤ 2 ^ b := by
  obtain ⟨k, rfl⟩ : ∃ k, b = a + k := ⟨b - a, by omega⟩
  rw [Int.pow_add]
  have h1 := two_pow_pos a
  have h2 := two_pow_pos k
  have := Int.mul_le_mul_of_nonneg_left (show (1 : Int) ≤ 2 ^ k by omega) (show (0 : Int) ≤ 2 ^ a by omega)
  omega
/-- all minors of the first k rows, at the start -/
theorem Mn.start {N k e : Nat} {F : Mx} (h : ∀ i c, i < N → Bd (2 ^ e) (F i c)) (hk : k ≤ N) (h64 : k ≤ 64) : Mn k F (2 ^ (64 * (e + 6))) := fun C => by
  have h1 := det_bdt (Int.le_of_lt (two_pow_pos e)) (n := k) (F := fun i t => F i (C t)) fun i j hi hj => h i (C j) (by omega)
  exact h1.mono (Int.le_trans (bdt_pow h64) (two_pow_le (Nat.mul_le_mul_right _ h64)))
/-- the bound of rows in Hermite form -/
theorem kk_pow {n e : Nat} (hn : n ≤ 64) : (n : Int) * (2 ^ (64 * (e + 6)) * 2 ^ (64 * (e + 6))) + 1 ≤ 2 ^ (128 * (e + 6) + 7) := by
  have e1 : (2 : Int) ^ (128 * (e + 6) + 7) = 128 * (2 ^ (64 * (e + 6)) * 2 ^ (64 * (e + 6))) := by
    have : 128 * (e + 6) + 7 = 7 + (64 * (e + 6) + 64 * (e + 6)) := by omega
    rw [this, Int.pow_add, Int.pow_add]; rfl
  have h1 := two_pow_pos (64 * (e + 6))
  have h2 := Int.mul_pos h1 h1
  have h3 := Int.mul_le_mul_of_nonneg_right (show (n : Int) ≤ 64 by omega) (Int.le_of_lt h2)
  rw [e1]
  omega
/-- all rows reduced -/
def RedA (n : Nat) (R : Mx) (J : Nat → Nat) : Prop := ∀ p, p < n → Red n R J p
theorem RedA.bd {n : Nat} {R : Mx} {J : Nat → Nat} {B : Int} (h : Ech n R J) (hr : RedA n R J) (hm : Mn n R B) : ∀ p c, p < n → Bd (n * (B * B)) (R p c) := fun p c hp => h.piv.bound hm hp (hr p hp)
/-- the left part of rows in Hermite form -/
theorem herm_left {n m : Nat} {R : Mx} {J : Nat → Nat} (h : Ech n R J) (hr : RedA n R J) {i : Nat} (hi : i < n) :
    (J i < m → (∀ c, c < J i → R i c = 0) ∧ 1 ≤ R i (J i) ∧ (∀ k, k < i → J k < J i ∧ J k < m ∧ 0 ≤ R k (J i) ∧ R k (J i) < R i (J i))) ∧ (m ≤ J i → ∀ c, c < m → R i c = 0) :=
  ⟨fun hj => ⟨fun c hc => h.zero i c hi hc, h.pos i hi, fun k hk => by
    have h1 := h.inc k i hk hi
    have h2 := hr k (by omega) i hi hk
    exact ⟨h1, by omega, h2.1, h2.2⟩⟩, fun hj c hc => h.zero i c hi (by omega)⟩
/-- rows in Hermite form of one lattice are the same: 2 rows, for the law's waking -/
theorem wake2 {F : Mx} {J : Nat → Nat} {u00 u01 u10 u11 w00 w01 w10 w11 : Int} (h : Ech 2 F J) (hr : RedA 2 F J) (hz : ∀ i c, i < 2 → 2 ≤ c → F i c = 0)
    (a0 : ∀ c, F 0 c = u00 * (if c = 0 then 2 else if c = 1 then 4 else 0) + u01 * (if c = 0 then 6 else if c = 1 then 8 else 0))
    (a1 : ∀ c, F 1 c = u10 * (if c = 0 then 2 else if c = 1 then 4 else 0) + u11 * (if c = 0 then 6 else if c = 1 then 8 else 0))
    (b0 : ∀ c, (if c = 0 then 2 else if c = 1 then 4 else 0 : Int) = w00 * F 0 c + w01 * F 1 c)
    (b1 : ∀ c, (if c = 0 then 6 else if c = 1 then 8 else 0 : Int) = w10 * F 0 c + w11 * F 1 c) :
    F 0 0 = 2 ∧ F 0 1 = 0 ∧ F 1 0 = 0 ∧ F 1 1 = 4 := by
  have hJ := h.inc 0 1 (by decide) (by decide)
  have p1 := h.pos 1 (by decide)
  have hJ1 : J 1 < 2 := by
    rcases Nat.lt_or_ge (J 1) 2 with e | e
    · exact e
    · rw [hz 1 (J 1) (by decide) e] at p1; omega
  have e0 : J 0 = 0 := by omega
  have e1 : J 1 = 1 := by omega
  have p0 := h.pos 0 (by decide)
  have z := h.zero 1 0 (by decide) (by omega)
  have r := hr 0 (by decide) 1 (by decide) (by decide)
  rw [e0] at p0
  rw [e1] at p1 r
  have a00 := a0 0
  have a01 := a0 1
  have a10 := a1 0
  have a11 := a1 1
  have b00 := b0 0
  have b01 := b0 1
  have b10 := b1 0
  have b11 := b1 1
  simp only [if_true, if_false, Nat.one_ne_zero] at a00 a01 a10 a11 b00 b01 b10 b11
  rw [z] at b00 b10
  -- F 0 0 divides 2 and is even
  have hd : F 0 0 ∣ 2 := ⟨w00, by rw [Int.mul_comm]; omega⟩
  have hle := Int.le_of_dvd (by decide) hd
  have h00 : F 0 0 = 2 := by omega
  rw [h00] at b00 b10
  have hw0 : w00 = 1 := by omega
  have hw1 : w10 = 3 := by omega
  subst hw0 hw1
  -- second column: 4 = F 0 1 + w01 p, 8 = 3 F 0 1 + w11 p
  have hp : F 1 1 ∣ 4 := ⟨3 * w01 - w11, by grind⟩
  have hle2 := Int.le_of_dvd (by decide) hp
  have hu : u10 = -3 * u11 := by omega
  have h11 : F 1 1 = -4 * u11 := by rw [a11, hu]; omega
  have h114 : F 1 1 = 4 := by omega
  have h01 : F 0 1 = 0 := by
    have : u00 = 1 - 3 * u01 := by omega
    have : F 0 1 = 4 - 4 * u01 := by omega
    omega
  exact ⟨h00, h01, z, h114⟩
end Go.Det
