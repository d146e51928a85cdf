/- Layer 9: same, of two answers that say the same. The engine, more operations: a table that is a package-level variable; -x of uint64. The array types of this translation. Layer 9: Kron; MatKrons (printed by genkrons.py). MatUnsound: each of its calls. The engine: literals of any number of structs; lists as facts in frames. -/
import Derived.Test.YtlhmehikajidhaaPu11
import Derived.Test.YtlhmehikajidhaaPu7
import Derived.Test.YtlhmehikajidhaaPu1
import Derived.Test.YtlhmehikajidhaaPu2
set_option linter.unusedVariables false
set_option linter.unusedSimpArgs false
namespace Go.Proofs.Ytlhmehikajidhaa
open Go Go.Eng Go.Proofs Go.NatM Go.RowKit

structure AS.Eqv (s t : AS) : Prop where
  r : s.r = t.r
  c : s.c = t.c
  F : ∀ i j, i < s.r → j < s.c → s.F i j = t.F i j
  y : s.y = t.y
  n : s.n = t.n
  Z : ∀ q, q < s.n → s.Z q = t.Z q
  rn : s.rn = t.rn
  rc : 0 < s.rn → s.rc = t.rc
  R : ∀ i j, i < s.rn → j < s.rc → s.R i j = t.R i j
  ok : s.ok = t.ok
  e : s.e = t.e
theorem AS.Eqv.rfl (s : AS) : AS.Eqv s s := ⟨_root_.rfl, _root_.rfl, fun _ _ _ _ => _root_.rfl, _root_.rfl, _root_.rfl, fun _ _ => _root_.rfl, _root_.rfl, fun _ => _root_.rfl, fun _ _ _ _ => _root_.rfl, _root_.rfl, _root_.rfl⟩
def sv (x : LV) : Value := .slice x.A x.n x.k
theorem sm_sv {H : Array Obj} {B n c : Nat} {A : Option Addr} {l : List LV} (h : Sm 1 lvc H B A n c l) : Sl sv H B A n c l := by
  refine ⟨h.len, h.cap, h.mem.imp id ?_⟩
  rintro ⟨b', o, e, hlt, hm⟩
  refine ⟨b', o, e, hlt, fun j x hx => ?_⟩
  have := hm j x hx 0 (sv x) rfl
  simpa using this
theorem rows_li {w : World} {n k k' : Nat} {A A' : Option Addr} {l l' : List IV} {Z Z' : Nat → Int} {K : Nat} (h : LL w.heap A n k l Z K) (h' : LL w.heap A' n k' l' Z' K) (hZ : ∀ q, q < n → Z q = Z' q) (hn : n ≤ 4096) (hK : K ≤ 1099511627776) :
    Cl Try.prog 23 #[.slice A n k, .slice A' n k'] w (YesM w) :=
  alikeRows_t w n A A' k k' l l' h.s h'.s hn fun q hq => by
    obtain ⟨g1, n1⟩ := h.g q hq
    obtain ⟨g2, n2⟩ := h'.g q hq
    exact ⟨g1.g, g2.g, by rw [g1.d, g2.d, hZ q hq], by rw [g1.e, g2.e, hZ q hq], by omega, by omega⟩
theorem ev_loadSv {P : Program} {σ : Store} {H : Array Obj} {d : Option Tmp} {t : TypeId} {pos : String} {af : Array Edge} {gd : Option (Nat × Bool)} {x : Operand} {ty : TypeId} [hO : UOne P ty] {B n c k : Nat} {A : Option Addr} {l : List LV} {v : LV}
    (hx : Eng.look σ x = some (.pointer (elemA A k))) (hs : Sl sv H B A n c l) (hk : k < n) (hv : l.getD k default = v) : Ev P σ H ⟨d, .load ty x, t, pos, af, gd⟩ (.slice v.A v.n v.k) := by
  have h1 := hs.len
  have h2 : l[k]? = some v := by rw [← hv]; simp [List.getD, show k < l.length by omega]
  exact ev_loadSl (f := sv) hx hs h2
set_option maxRecDepth 100000 in
set_option maxHeartbeats 8000000 in
theorem same9_t (w : World) (a b : AV) (s t : AS) (K : Nat) (ha : AOK w.heap a s K) (hb : AOK w.heap b t K) (he : AS.Eqv s t) (hK : K ≤ 1099511627776) (hn : s.n ≤ 4096) (hrn : s.rn ≤ 4096) (hrc : 0 < s.rn → s.rc ≤ 4096) :
    Cl Try.prog 31 #[.agg (avc a).toArray, .agg (avc b).toArray] w (YesM w) := by
  obtain ⟨sr, sc, sF, sy, sn, sZ, srn, src, sR, sok, se⟩ := s
  obtain ⟨tr, tc, tF, ty, tn, tZ, trn, trc, tR, tok, te⟩ := t
  obtain ⟨e1, e2, e3, e4, e5, e6, e7, e8, e9, e10, e11⟩ := he
  dsimp only at e1 e2 e3 e4 e5 e6 e7 e8 e9 e10 e11 hn hrn hrc
  subst e1 e2 e4 e5 e7 e10 e11
  obtain ⟨ax, ay, al, ar, an, aok, ae⟩ := ha
  obtain ⟨bx, by_, bl, br, bn, bok, be⟩ := hb
  have hM := fun w1 (hE : Ext w w1) => alikeMats_t w1 a.x b.x sr sc K K sF tF (ax.ext hE) (bx.ext hE) e3 hK hK
  have hI := fun w1 (hE : Ext w w1) => alike_li w1 a.y b.y (ay.1.ext hE) (by_.1.ext hE) rfl (Nat.le_trans ay.2 hK) (Nat.le_trans by_.2 hK)
  have hL := fun w1 (hE : Ext w w1) => rows_li (w := w1) (al.1.ext hE) (bl.1.ext hE) e6 hn hK
  have hR := fun w1 (hE : Ext w w1) i (hi : i < srn) => rows_li (w := w1) ((ar.2.2 i hi).2.ext hE) (k' := (b.r.getD i default).k) (A' := (b.r.getD i default).A) (l' := (b.r.getD i default).l) (Z' := tR i) (by have h := (br.2.2 i hi).2.ext hE; rw [show trc = src from (e8 (by omega)).symm] at h; exact h) (fun q hq => e9 i q hi hq) (hrc (by omega)) hK
  have hRa := fun i (hi : i < srn) => (ar.2.2 i hi).1
  have hRb := fun i (hi : i < srn) => ((br.2.2 i hi).1.trans (e8 (by omega)).symm)
  have sa := sm_sv ar.1
  have sb := sm_sv br.1
  have na := an.1
  have nb := bn.1
  have nqa := an.2.2
  have nqb := bn.2.2
  obtain ⟨_, b1⟩ := al
  obtain ⟨_, b2⟩ := bl
  obtain ⟨_, b3, _⟩ := ar
  obtain ⟨_, b4, _⟩ := br
  obtain ⟨_, b5, _⟩ := an
  obtain ⟨_, b6, _⟩ := bn
  clear ax ay bx by_ e3 e6 e8 e9
  obtain ⟨⟨xr, xc, xA, xn, xk, xl⟩, ⟨yn, ⟨yA, ym, yc, yl⟩⟩, ⟨lA, ln, lk, ll⟩, rA, rn, rk, rl, nA, nn, nk, ns, ok, e⟩ := a
  obtain ⟨⟨xr', xc', xA', xn', xk', xl'⟩, ⟨yn', ⟨yA', ym', yc', yl'⟩⟩, ⟨lA', ln', lk', ll'⟩, rA', rn', rk', rl', nA', nn', nk', ns', ok', e'⟩ := b
  dsimp only at b1 b2 b3 b4 b5 b6 aok ae bok be hM hI hL hR hRa hRb sa sb na nb nqa nqb
  subst b1 b2 b3 b5 aok ae
  subst b4 b6 bok be
  refine enter Try.func31 rfl rfl rfl ?_
  have hF := Fr.refl w
  repeat' (first | (refine TL.isOp ?_; first | (refine TL.isG ?_; first | refine TL.grun rfl rfl rfl ?_ | refine TL.gskip rfl rfl rfl rfl ?_ | refine TL.gskipU rfl rfl rfl ?_) | (refine TL.isCall ?_; refine TL.call rfl rfl ?_; first | (refine (hM _ hF.ext).mono ?_; rintro _ wc ⟨rfl, hE⟩; replace hF := hF.exts hE; clear hE; refine Back.mk ?_) | (refine (hI _ hF.ext).mono ?_; rintro _ wc ⟨rfl, hE⟩; replace hF := hF.exts hE; clear hE; refine Back.mk ?_) | (refine (hL _ hF.ext).mono ?_; rintro _ wc ⟨rfl, hE⟩; replace hF := hF.exts hE; clear hE; refine Back.mk ?_)) | (refine TL.isBin ?_; refine TL.cmpG rfl rfl rfl rfl (fun hc => ?_) (fun hc => ?_) <;> (try (first | (exfalso; omega) | exact absurd rfl hc))) | (apply TL.ev; (case hd => rfl); (case h => (first | exact ev_simple rfl | (apply Ev.isBin; first | exact ev_arN rfl rfl rfl (by omega) | exact ev_arI rfl rfl rfl (by omega) | exact ev_eqlB (r := true) rfl rfl rfl | exact ev_eqlB (r := false) rfl rfl rfl | exact ev_neqB (r := true) rfl rfl rfl | exact ev_neqB (r := false) rfl rfl rfl | exact ev_neqB (r := false) rfl rfl (by cases ok' <;> rfl)) | (apply Ev.isLoad; first | exact ev_loadFr hF rfl (by refine ⟨?_, ?_⟩; (focus (repeat (first | exact InV.head | apply InV.tail))); rfl) | exact ev_loadAFr hF rfl (by refine ⟨?_, ?_⟩; (focus (repeat (first | exact InV.head | apply InV.tail))); rfl)) | exact ev_len rfl | exact ev_fieldAddr rfl | exact ev_field rfl rfl | exact ev_fieldA rfl rfl | exact ev_buildX rfl rfl | exact ev_makeFunc rfl | exact ev_nilCheck rfl | exact ev_neg rfl (by omega) | exact ev_cap rfl))) | (refine TL.storeAFr hF rfl rfl rfl rfl (by refine ⟨?_, ?_⟩; (focus (repeat (first | apply SetV.head | apply SetV.tail))); rfl) rfl ?_; clear hF; intro ws hF) | (refine TL.storeFr hF rfl rfl rfl rfl (by refine ⟨?_, ?_⟩; (focus (repeat (first | apply SetV.head | apply SetV.tail))); rfl) rfl ?_; clear hF; intro ws hF) | (refine TL.boxAFr hF (d := 2) (cs := [.int .i64 xr, .int .i64 xc, .slice xA xn xk, .bool yn, .slice yA ym yc, .slice lA ln' lk, .slice rA nn' rk, .slice nA nn' nk, .bool ok', .int .i64 e']) rfl rfl ?_; clear hF; intro w2 b2 hF) | (refine TL.boxAFr hF (d := 3) (cs := [.int .i64 xr', .int .i64 xc', .slice xA' xn' xk', .bool yn', .slice yA' ym' yc', .slice lA' ln' lk', .slice rA' nn' rk', .slice nA' nn' nk', .bool ok', .int .i64 e']) rfl rfl ?_; clear hF; intro w3 b3 hF) | (refine TL.boxAFr hF rfl rfl ?_; clear hF; intro wb bb hF) | (refine TL.boxFr hF rfl rfl ?_; clear hF; intro wb bb hF) | (refine TL.allocFr hF rfl rfl ?_; clear hF; intro wa ba hF)) | (refine T.is ?_; first | refine T.seq ?_ | refine T.region ?_ | refine T.block ?_ | refine T.cond_t rfl ?_ | refine T.cond_f rfl ?_ | refine T.exit ?_ | refine T.ret ?_ | refine T.skip ?_ | refine T.regionQ mixed (by kernel_rfl) ?_) | (refine G.is ?_; first | refine G.next ?_ | refine G.blockN ?_ | refine G.blockE ?_ | refine G.blockE' rfl ?_ | refine G.blockR ?_ | refine G.thenE ?_ | refine G.thenR ?_ | refine G.only ?_) | refine TL.nil ?_ | (refine TL.nilFr hF ?_; clear hF; intro wq hF))
  refine T.loop (α := Nat) (fun i => [(2, .pointer (some ⟨b2, 0, none⟩)), (3, .pointer (some ⟨b3, 0, none⟩)), (5, .int .i64 (i : Int))])
    (fun i w' => i ≤ nn' ∧ Fr w w' [⟨b3, 65, [.int .i64 xr', .int .i64 xc', .slice xA' xn' xk', .bool yn', .slice yA' ym' yc', .slice lA' ln' lk', .slice rA' nn' rk', .slice nA' nn' nk', .bool ok', .int .i64 e']⟩, ⟨b2, 65, [.int .i64 xr, .int .i64 xc, .slice xA xn xk, .bool yn, .slice yA ym yc, .slice lA ln' lk, .slice rA nn' rk, .slice nA nn' nk, .bool ok', .int .i64 e']⟩] []) (fun i => nn' - i) 0 (by repeat (first | exact Sub.nil _ | refine Sub.cons rfl ?_ | refine Sub.cons' rfl (int_congr (by omega)) ?_)) ⟨Nat.zero_le _, hF⟩ ?_
  clear hF
  rintro i w2 ⟨hi, hF⟩
  rcases Nat.lt_or_ge i nn' with hin | hin
  · have hRi := fun w1 hE => hR w1 hE i hin
    have ha' := hRa i hin
    have hb' := hRb i hin
    obtain ⟨va, eva⟩ : ∃ v, rl.getD i default = v := ⟨_, rfl⟩
    obtain ⟨vb, evb⟩ : ∃ v, rl'.getD i default = v := ⟨_, rfl⟩
    rw [eva] at ha' hRi
    rw [evb] at hb' hRi
    obtain ⟨vA, vn, vk, vl⟩ := va
    obtain ⟨uA, un, uk, ul⟩ := vb
    dsimp only at ha' hb' hRi
    subst ha'
    subst hb'
    have qa := nqa i hin
    have qb := nqb i hin
    repeat' (first | (refine TL.isOp ?_; first | (refine TL.isG ?_; first | refine TL.grun rfl rfl rfl ?_ | refine TL.gskip rfl rfl rfl rfl ?_ | refine TL.gskipU rfl rfl rfl ?_) | (refine TL.isCall ?_; refine TL.call rfl rfl ?_; first | (refine (hRi _ hF.ext).mono ?_; rintro _ wc ⟨rfl, hE⟩; replace hF := hF.exts hE; clear hE; refine Back.mk ?_)) | (refine TL.isBin ?_; refine TL.cmpG rfl rfl rfl rfl (fun hc => ?_) (fun hc => ?_) <;> (try (first | (exfalso; omega) | exact absurd rfl hc))) | (apply TL.ev; (case hd => rfl); (case h => (first | exact ev_simple rfl | (apply Ev.isBin; first | exact ev_arN rfl rfl rfl (by omega) | exact ev_arI rfl rfl rfl (by omega) | exact ev_eqlB (r := true) rfl rfl rfl | exact ev_eqlB (r := false) rfl rfl rfl | exact ev_neqB (r := true) rfl rfl rfl | exact ev_neqB (r := false) rfl rfl rfl) | (apply Ev.isLoad; first | exact ev_loadFr hF rfl (by refine ⟨?_, ?_⟩; (focus (repeat (first | exact InV.head | apply InV.tail))); rfl) | exact ev_loadAFr hF rfl (by refine ⟨?_, ?_⟩; (focus (repeat (first | exact InV.head | apply InV.tail))); rfl) | exact ev_loadSv rfl (sa.ext hF.ext) hin eva | exact ev_loadSv rfl (sb.ext hF.ext) hin evb | exact ev_loadIz rfl (na.ext hF.ext) hin qa | exact ev_loadIz rfl (nb.ext hF.ext) hin qb) | exact ev_len rfl | exact ev_fieldAddr rfl | exact ev_field rfl rfl | exact ev_fieldA rfl rfl | exact ev_buildX rfl rfl | exact ev_makeFunc rfl | exact ev_nilCheck rfl | exact ev_neg rfl (by omega) | exact ev_cap rfl | exact ev_indexN rfl rfl hin (sa.ext hF.ext).some | exact ev_indexN rfl rfl hin (sb.ext hF.ext).some | exact ev_indexN rfl rfl hin (na.ext hF.ext).some | exact ev_indexN rfl rfl hin (nb.ext hF.ext).some))) | (refine TL.storeAFr hF rfl rfl rfl rfl (by refine ⟨?_, ?_⟩; (focus (repeat (first | apply SetV.head | apply SetV.tail))); rfl) rfl ?_; clear hF; intro ws hF) | (refine TL.storeFr hF rfl rfl rfl rfl (by refine ⟨?_, ?_⟩; (focus (repeat (first | apply SetV.head | apply SetV.tail))); rfl) rfl ?_; clear hF; intro ws hF) | (refine TL.boxAFr hF rfl rfl ?_; clear hF; intro wb bb hF) | (refine TL.boxFr hF rfl rfl ?_; clear hF; intro wb bb hF) | (refine TL.allocFr hF rfl rfl ?_; clear hF; intro wa ba hF)) | (refine TF.is ?_; first | refine TF.nil ?_ | refine TF.e rfl ?_ | refine TF.alt ?_ ?_ | (refine TF.pick rfl ?_; first | (refine TFo.cmpG rfl rfl rfl rfl (fun hc => ?_) (fun hc => ?_) <;> (try (first | (exfalso; omega) | exact absurd rfl hc))) | (refine TFo.cmpGg rfl rfl rfl rfl rfl rfl rfl (fun hc => ?_) (fun hc => ?_) <;> (try (first | (exfalso; omega) | exact absurd rfl hc))) | (apply TFo.ev; (case hd => rfl); (case h => (intro wh hF; first | exact ev_simple rfl | (apply Ev.isBin; first | exact ev_arN rfl rfl rfl (by omega) | exact ev_arI rfl rfl rfl (by omega) | exact ev_eqlB (r := true) rfl rfl rfl | exact ev_eqlB (r := false) rfl rfl rfl | exact ev_neqB (r := true) rfl rfl rfl | exact ev_neqB (r := false) rfl rfl rfl) | (apply Ev.isLoad; first | exact ev_loadFr hF rfl (by refine ⟨?_, ?_⟩; (focus (repeat (first | exact InV.head | apply InV.tail))); rfl) | exact ev_loadAFr hF rfl (by refine ⟨?_, ?_⟩; (focus (repeat (first | exact InV.head | apply InV.tail))); rfl) | exact ev_loadSv rfl (sa.ext hF.ext) hin eva | exact ev_loadSv rfl (sb.ext hF.ext) hin evb | exact ev_loadIz rfl (na.ext hF.ext) hin qa | exact ev_loadIz rfl (nb.ext hF.ext) hin qb) | exact ev_len rfl | exact ev_fieldAddr rfl | exact ev_field rfl rfl | exact ev_fieldA rfl rfl | exact ev_buildX rfl rfl | exact ev_makeFunc rfl | exact ev_nilCheck rfl | exact ev_neg rfl (by omega) | exact ev_cap rfl | exact ev_indexN rfl rfl hin (sa.ext hF.ext).some | exact ev_indexN rfl rfl hin (sb.ext hF.ext).some | exact ev_indexN rfl rfl hin (na.ext hF.ext).some | exact ev_indexN rfl rfl hin (nb.ext hF.ext).some))) | (apply TFo.evg rfl rfl rfl; (case hd => rfl); (case h => (intro wh hF; first | exact ev_simple rfl | (apply Ev.isBin; first | exact ev_arN rfl rfl rfl (by omega) | exact ev_arI rfl rfl rfl (by omega) | exact ev_eqlB (r := true) rfl rfl rfl | exact ev_eqlB (r := false) rfl rfl rfl | exact ev_neqB (r := true) rfl rfl rfl | exact ev_neqB (r := false) rfl rfl rfl) | (apply Ev.isLoad; first | exact ev_loadFr hF rfl (by refine ⟨?_, ?_⟩; (focus (repeat (first | exact InV.head | apply InV.tail))); rfl) | exact ev_loadAFr hF rfl (by refine ⟨?_, ?_⟩; (focus (repeat (first | exact InV.head | apply InV.tail))); rfl) | exact ev_loadSv rfl (sa.ext hF.ext) hin eva | exact ev_loadSv rfl (sb.ext hF.ext) hin evb | exact ev_loadIz rfl (na.ext hF.ext) hin qa | exact ev_loadIz rfl (nb.ext hF.ext) hin qb) | exact ev_len rfl | exact ev_fieldAddr rfl | exact ev_field rfl rfl | exact ev_fieldA rfl rfl | exact ev_buildX rfl rfl | exact ev_makeFunc rfl | exact ev_nilCheck rfl | exact ev_neg rfl (by omega) | exact ev_cap rfl | exact ev_indexN rfl rfl hin (sa.ext hF.ext).some | exact ev_indexN rfl rfl hin (sb.ext hF.ext).some | exact ev_indexN rfl rfl hin (na.ext hF.ext).some | exact ev_indexN rfl rfl hin (nb.ext hF.ext).some))) | refine TFo.skip rfl rfl rfl rfl ?_ | refine TFo.skipU rfl rfl rfl ?_)) | (refine T.is ?_; first | refine T.seq ?_ | refine T.region ?_ | refine T.block ?_ | refine T.cond_t rfl ?_ | refine T.cond_f rfl ?_ | refine T.exit ?_ | refine T.ret ?_ | refine T.skip ?_ | (refine T.regionFr hF 6 12 (.s 0 (.s 1 (.s 2 (.s 3 (.s 4 (.s 5 (.s 6 (.s 7 (.s 8 (.s 9 (.e 10 (.s 11 .nil)))))))))))) mixed (by kernel_rfl) ?_; clear hF; intro wr hF) | refine T.regionQ mixed (by kernel_rfl) ?_) | (refine G.is ?_; first | refine G.next ?_ | refine G.blockN ?_ | refine G.blockE ?_ | refine G.blockE' rfl ?_ | refine G.blockR ?_ | refine G.thenE ?_ | refine G.thenR ?_ | refine G.only ?_ | refine G.treeEnd rfl ?_ | refine G.tree rfl (by first | exact hF | exact hF.weak (by repeat (first | exact List.Sublist.refl _ | apply List.Sublist.cons)) (by repeat (first | exact allR | apply allT)) | exact hF.weak (by repeat (first | exact List.Sublist.refl _ | apply List.Sublist.cons)) (by repeat (first | exact allN | refine allH (by repeat (first | exact memH | apply memT)) ?_))) ?_) | refine TL.nil ?_ | (refine TL.nilFr hF ?_; clear hF; intro wq hF))
    exact G.again (i + 1) (by repeat (first | exact Sub.nil _ | refine Sub.cons rfl ?_ | refine Sub.cons' rfl (int_congr (by omega)) ?_)) ⟨by omega, hF⟩ (by omega)
  · obtain rfl : i = nn' := by omega
    repeat' (first | (refine TL.isOp ?_; first | (refine TL.isG ?_; first | refine TL.grun rfl rfl rfl ?_ | refine TL.gskip rfl rfl rfl rfl ?_ | refine TL.gskipU rfl rfl rfl ?_) | (refine TL.isBin ?_; refine TL.cmpG rfl rfl rfl rfl (fun hc => ?_) (fun hc => ?_) <;> (try (first | (exfalso; omega) | exact absurd rfl hc))) | (apply TL.ev; (case hd => rfl); (case h => (first | exact ev_simple rfl | (apply Ev.isBin; first | exact ev_arN rfl rfl rfl (by omega) | exact ev_arI rfl rfl rfl (by omega) | exact ev_eqlB (r := true) rfl rfl rfl | exact ev_eqlB (r := false) rfl rfl rfl | exact ev_neqB (r := true) rfl rfl rfl | exact ev_neqB (r := false) rfl rfl rfl) | (apply Ev.isLoad; first | exact ev_loadFr hF rfl (by refine ⟨?_, ?_⟩; (focus (repeat (first | exact InV.head | apply InV.tail))); rfl) | exact ev_loadAFr hF rfl (by refine ⟨?_, ?_⟩; (focus (repeat (first | exact InV.head | apply InV.tail))); rfl)) | exact ev_len rfl | exact ev_fieldAddr rfl | exact ev_field rfl rfl | exact ev_fieldA rfl rfl | exact ev_buildX rfl rfl | exact ev_makeFunc rfl | exact ev_nilCheck rfl | exact ev_neg rfl (by omega) | exact ev_cap rfl))) | (refine TL.storeAFr hF rfl rfl rfl rfl (by refine ⟨?_, ?_⟩; (focus (repeat (first | apply SetV.head | apply SetV.tail))); rfl) rfl ?_; clear hF; intro ws hF) | (refine TL.storeFr hF rfl rfl rfl rfl (by refine ⟨?_, ?_⟩; (focus (repeat (first | apply SetV.head | apply SetV.tail))); rfl) rfl ?_; clear hF; intro ws hF) | (refine TL.boxAFr hF rfl rfl ?_; clear hF; intro wb bb hF) | (refine TL.boxFr hF rfl rfl ?_; clear hF; intro wb bb hF) | (refine TL.allocFr hF rfl rfl ?_; clear hF; intro wa ba hF)) | (refine T.is ?_; first | refine T.seq ?_ | refine T.region ?_ | refine T.block ?_ | refine T.cond_t rfl ?_ | refine T.cond_f rfl ?_ | refine T.exit ?_ | refine T.ret ?_ | refine T.skip ?_ | refine T.regionQ mixed (by kernel_rfl) ?_) | (refine G.is ?_; first | refine G.next ?_ | refine G.blockN ?_ | refine G.blockE ?_ | refine G.blockE' rfl ?_ | refine G.blockR ?_ | refine G.thenE ?_ | refine G.thenR ?_ | refine G.only ?_) | refine TL.nil ?_ | (refine TL.nilFr hF ?_; clear hF; intro wq hF))
    exact G.ret1 rfl rfl ⟨rfl, hF.ext⟩
end Go.Proofs.Ytlhmehikajidhaa

namespace Go.Eng
open Go Go.RowKit

/-- an array -/
class UArr (P : Program) (t : TypeId) (n e : outParam Nat) : Prop where
  out : P.underlying t = some (.array n e)
section
variable {P : Program} {σ : Store} {H : Array Obj} {d : Option Tmp} {t : TypeId} {pos : String} {af : Array Edge} {gd : Option (Nat × Bool)}
end
end Go.Eng

namespace Go.Proofs.Ytlhmehikajidhaa
open Go Go.Eng Go.Proofs
instance : UArr Try.prog 25 4 24 := ⟨Try.underlying25⟩
instance : UArr Try.prog 112 0 16 := ⟨Try.underlying112⟩
end Go.Proofs.Ytlhmehikajidhaa

namespace Go.Eng
open Go Go.RowKit
section
variable {P : Program} {σ : Store} {H : Array Obj} {d : Option Tmp} {t : TypeId} {pos : String} {af : Array Edge} {gd : Option (Nat × Bool)}
end
end Go.Eng
namespace Go.Proofs.Ytlhmehikajidhaa
open Go Go.Eng Go.Proofs Go.NatM Go.RowKit

theorem dm_lt {i r p : Nat} (h : i < r * p) : i / p < r ∧ i % p < p := by
  have hp : 0 < p := by
    rcases Nat.eq_zero_or_pos p with h0 | h0
    · rw [h0, Nat.mul_zero] at h; omega
    · exact h0
  exact ⟨Nat.div_lt_of_lt_mul (by rw [Nat.mul_comm]; exact h), Nat.mod_lt _ hp⟩
set_option maxRecDepth 100000 in
set_option maxHeartbeats 16000000 in
theorem kron1_ok (w : World) (r c p q i j Kx Ky : Nat) (A A' : Option Addr) (k k' : Nat) (l l' : List IV) (pa pb : Nat) (gx : GM w.heap ⟨r, c, A, r * c, k, l⟩ r c Kx) (gy : GM w.heap ⟨p, q, A', p * q, k', l'⟩ p q Ky) (hx : Kx ≤ 8796093022000) (hy : Ky ≤ 8796093022000)
    (hpa : Vr w.heap pa 24 (mvc ⟨r, c, A, r * c, k, l⟩)) (hpb : Vr w.heap pb 24 (mvc ⟨p, q, A', p * q, k', l'⟩)) (hi : i < r * p) (hj : j < c * q) (hi64 : i ≤ 64) (hj64 : j ≤ 64) :
    Cl Try.prog 35 #[.int .i64 (i : Int), .int .i64 (j : Int), .pointer (some ⟨pa, 0, none⟩), .pointer (some ⟨pb, 0, none⟩)] w (RetZ w (ival (l.getD (i / p * c + j / q) default) * ival (l'.getD (i % p * q + j % q) default)) (Kx + Ky)) := by
  have hm1 := mul64 gx.sh.r64 gx.sh.c64
  have hm2 := mul64 gy.sh.r64 gy.sh.c64
  have hs := gx.s
  have hs' := gy.s
  have hlen := hs.len
  have hlen' := hs'.len
  dsimp only at hs hs' hlen hlen'
  rw [mvc_mk] at hpa hpb
  obtain ⟨i1, i2⟩ := dm_lt hi
  obtain ⟨j1, j2⟩ := dm_lt hj
  have hp1 := place_lt i1 j1
  have hp2 := place_lt i2 j2
  have ha1 := Nat.le_add_right (i / p * c) (j / q)
  have ha2 := Nat.le_add_right (i % p * q) (j % q)
  have hb1 : i / p * c ≤ 4096 := by omega
  have hb2 : i % p * q ≤ 4096 := by omega
  have hb3 : i / p * c + j / q ≤ 4096 := by omega
  have hb4 : i % p * q + j % q ≤ 4096 := by omega
  have hp0 : 0 < p := by omega
  have hq0 : 0 < q := by omega
  have y1 : l[i / p * c + j / q]? = some (l.getD (i / p * c + j / q) default) := by simp [List.getD, show i / p * c + j / q < l.length by omega]
  have y2 : l'[i % p * q + j % q]? = some (l'.getD (i % p * q + j % q) default) := by simp [List.getD, show i % p * q + j % q < l'.length by omega]
  obtain ⟨g1, n1⟩ := gx.g _ (List.mem_of_getElem? y1)
  obtain ⟨g2, n2⟩ := gy.g _ (List.mem_of_getElem? y2)
  generalize l.getD (i / p * c + j / q) default = x1 at *
  generalize l'.getD (i % p * q + j % q) default = x2 at *
  refine enter Try.func35 rfl rfl rfl ?_
  have hF := Fr.refl w
  repeat' (first | (refine TL.isOp ?_; first | (refine TL.isG ?_; first | refine TL.grun rfl rfl rfl ?_ | refine TL.gskip rfl rfl rfl rfl ?_ | refine TL.gskipU rfl rfl rfl ?_) | (refine TL.isCall ?_; refine TL.call rfl rfl ?_; first | (refine (zmul_ok _ x1 x2 (g1.ext hF.ext) (g2.ext hF.ext) (by omega) (by omega)).mono ?_; rintro _ wm ⟨s', rfl, hLm, hE, hKm⟩; replace hF := Fr.addLI (hF.exts hE) hLm; clear hE; refine Back.mk ?_)) | (refine TL.isBin ?_; refine TL.cmpG rfl rfl rfl rfl (fun hc => ?_) (fun hc => ?_) <;> (try (first | (exfalso; omega) | exact absurd rfl hc))) | (apply TL.ev; (case hd => rfl); (case h => (first | exact ev_simple rfl | (apply Ev.isBin; first | exact ev_arN rfl rfl rfl (by omega) | exact ev_arI rfl rfl rfl (by omega) | exact ev_eqlB (r := true) rfl rfl rfl | exact ev_eqlB (r := false) rfl rfl rfl | exact ev_neqB (r := true) rfl rfl rfl | exact ev_neqB (r := false) rfl rfl rfl) | (apply Ev.isLoad; first | exact ev_loadFr hF rfl (by refine ⟨?_, ?_⟩; (focus (repeat (first | exact InV.head | apply InV.tail))); rfl) | exact ev_loadAFr hF rfl (by refine ⟨?_, ?_⟩; (focus (repeat (first | exact InV.head | apply InV.tail))); rfl) | exact ev_loadV rfl (hpa.ext hF.ext) rfl | exact ev_loadV rfl (hpb.ext hF.ext) rfl | exact ev_loadM rfl (hs.ext hF.ext) y1 | exact ev_loadM rfl (hs'.ext hF.ext) y2) | exact ev_len rfl | exact ev_fieldAddr rfl | exact ev_field rfl rfl | exact ev_fieldA rfl rfl | exact ev_buildX rfl rfl | exact ev_makeFunc rfl | exact ev_nilCheck rfl | exact ev_neg rfl (by omega) | exact ev_cap rfl | exact ev_indexM rfl rfl hp1 (hs.ext hF.ext).some | exact ev_indexM rfl rfl hp2 (hs'.ext hF.ext).some))) | (refine TL.storeAFr hF rfl rfl rfl rfl (by refine ⟨?_, ?_⟩; (focus (repeat (first | apply SetV.head | apply SetV.tail))); rfl) rfl ?_; clear hF; intro ws hF) | (refine TL.storeFr hF rfl rfl rfl rfl (by refine ⟨?_, ?_⟩; (focus (repeat (first | apply SetV.head | apply SetV.tail))); rfl) rfl ?_; clear hF; intro ws hF) | (refine TL.allocFr hF (d := 6) rfl rfl ?_; clear hF; intro w6 b6 hF) | (refine TL.allocFr hF (d := 7) rfl rfl ?_; clear hF; intro w7 b7 hF) | (refine TL.boxAFr hF rfl rfl ?_; clear hF; intro wb bb hF) | (refine TL.boxFr hF rfl rfl ?_; clear hF; intro wb bb hF) | (refine TL.allocFr hF rfl rfl ?_; clear hF; intro wa ba hF)) | (refine TF.is ?_; first | refine TF.nil ?_ | refine TF.e rfl ?_ | refine TF.alt ?_ ?_ | (refine TF.pick rfl ?_; first | (refine TFo.cmpG rfl rfl rfl rfl (fun hc => ?_) (fun hc => ?_) <;> (try (first | (exfalso; omega) | exact absurd rfl hc))) | (refine TFo.cmpGg rfl rfl rfl rfl rfl rfl rfl (fun hc => ?_) (fun hc => ?_) <;> (try (first | (exfalso; omega) | exact absurd rfl hc))) | (apply TFo.ev; (case hd => rfl); (case h => (intro wh hF; first | exact ev_simple rfl | (apply Ev.isBin; first | exact ev_arN rfl rfl rfl (by omega) | exact ev_arI rfl rfl rfl (by omega) | exact ev_eqlB (r := true) rfl rfl rfl | exact ev_eqlB (r := false) rfl rfl rfl | exact ev_neqB (r := true) rfl rfl rfl | exact ev_neqB (r := false) rfl rfl rfl) | (apply Ev.isLoad; first | exact ev_loadFr hF rfl (by refine ⟨?_, ?_⟩; (focus (repeat (first | exact InV.head | apply InV.tail))); rfl) | exact ev_loadAFr hF rfl (by refine ⟨?_, ?_⟩; (focus (repeat (first | exact InV.head | apply InV.tail))); rfl) | exact ev_loadV rfl (hpa.ext hF.ext) rfl | exact ev_loadV rfl (hpb.ext hF.ext) rfl | exact ev_loadM rfl (hs.ext hF.ext) y1 | exact ev_loadM rfl (hs'.ext hF.ext) y2) | exact ev_len rfl | exact ev_fieldAddr rfl | exact ev_field rfl rfl | exact ev_fieldA rfl rfl | exact ev_buildX rfl rfl | exact ev_makeFunc rfl | exact ev_nilCheck rfl | exact ev_neg rfl (by omega) | exact ev_cap rfl | exact ev_indexM rfl rfl hp1 (hs.ext hF.ext).some | exact ev_indexM rfl rfl hp2 (hs'.ext hF.ext).some))) | (apply TFo.evg rfl rfl rfl; (case hd => rfl); (case h => (intro wh hF; first | exact ev_simple rfl | (apply Ev.isBin; first | exact ev_arN rfl rfl rfl (by omega) | exact ev_arI rfl rfl rfl (by omega) | exact ev_eqlB (r := true) rfl rfl rfl | exact ev_eqlB (r := false) rfl rfl rfl | exact ev_neqB (r := true) rfl rfl rfl | exact ev_neqB (r := false) rfl rfl rfl) | (apply Ev.isLoad; first | exact ev_loadFr hF rfl (by refine ⟨?_, ?_⟩; (focus (repeat (first | exact InV.head | apply InV.tail))); rfl) | exact ev_loadAFr hF rfl (by refine ⟨?_, ?_⟩; (focus (repeat (first | exact InV.head | apply InV.tail))); rfl) | exact ev_loadV rfl (hpa.ext hF.ext) rfl | exact ev_loadV rfl (hpb.ext hF.ext) rfl | exact ev_loadM rfl (hs.ext hF.ext) y1 | exact ev_loadM rfl (hs'.ext hF.ext) y2) | exact ev_len rfl | exact ev_fieldAddr rfl | exact ev_field rfl rfl | exact ev_fieldA rfl rfl | exact ev_buildX rfl rfl | exact ev_makeFunc rfl | exact ev_nilCheck rfl | exact ev_neg rfl (by omega) | exact ev_cap rfl | exact ev_indexM rfl rfl hp1 (hs.ext hF.ext).some | exact ev_indexM rfl rfl hp2 (hs'.ext hF.ext).some))) | refine TFo.skip rfl rfl rfl rfl ?_ | refine TFo.skipU rfl rfl rfl ?_)) | (refine T.is ?_; first | refine T.seq ?_ | refine T.region ?_ | refine T.block ?_ | refine T.cond_t rfl ?_ | refine T.cond_f rfl ?_ | refine T.exit ?_ | refine T.ret ?_ | refine T.skip ?_ | (refine T.regionFr hF 1 17 (.s 0 (.s 1 (.s 2 (.s 3 (.s 4 (.s 5 (.s 6 (.s 7 (.s 8 (.s 9 (.s 10 (.s 11 (.s 12 (.s 13 (.s 14 (.s 15 (.e 16 (.e 17 .nil)))))))))))))))))) mixed (by kernel_rfl) ?_; clear hF; intro wr hF) | (refine T.regionFr hF 2 18 (.s 0 (.s 1 (.s 2 (.s 3 (.s 4 (.s 5 (.s 6 (.s 7 (.s 8 (.s 9 (.s 10 (.s 11 (.s 12 (.s 13 (.s 14 (.s 15 (.s 16 (.e 17 (.e 18 .nil))))))))))))))))))) mixed (by kernel_rfl) ?_; clear hF; intro wr hF) | refine T.regionQ mixed (by kernel_rfl) ?_) | (refine G.is ?_; first | refine G.next ?_ | refine G.blockN ?_ | refine G.blockE ?_ | refine G.blockE' rfl ?_ | refine G.blockR ?_ | refine G.thenE ?_ | refine G.thenR ?_ | refine G.only ?_ | refine G.treeEnd rfl ?_ | refine G.tree rfl (by first | exact hF | exact hF.weak (by repeat (first | exact List.Sublist.refl _ | apply List.Sublist.cons)) (by repeat (first | exact allR | apply allT)) | exact hF.weak (by repeat (first | exact List.Sublist.refl _ | apply List.Sublist.cons)) (by repeat (first | exact allN | refine allH (by repeat (first | exact memH | apply memT)) ?_))) ?_) | refine TL.nil ?_ | (refine TL.nilFr hF ?_; clear hF; intro wq hF))
  exact G.retC1 rfl rfl (held_agg (hF.var (by repeat (first | exact InV.head | apply InV.tail))) rfl) ⟨s', rfl, Fr.li hF (by repeat (first | exact memH | apply memT)), hF.ext, by omega⟩

set_option maxRecDepth 100000 in
set_option maxHeartbeats 16000000 in
theorem mkron_ok (w : World) (x y : MV) (r c p q R C Kx Ky : Nat) (gx : GM w.heap x r c Kx) (gy : GM w.heap y p q Ky) (hx : Kx ≤ 8796093022000) (hy : Ky ≤ 8796093022000) (hR : R = r * p) (hC : C = c * q) (hR64 : R ≤ 64) (hC64 : C ≤ 64) :
    Cl Try.prog 11 #[.agg (mvc x).toArray, .agg (mvc y).toArray] w (RetME w R C (fun i j => ent x c (i / p) (j / q) * ent y q (i % p) (j % q)) (Kx + Ky)) := by
  have hsd := sound_two gx.sh gy.sh
  obtain ⟨xr, xc, A, n, k, l⟩ := x
  obtain ⟨yr, yc, A', n', k', l'⟩ := y
  obtain ⟨h1, h2, h3, h4, h5⟩ := id gx.sh
  obtain ⟨h1', h2', h3', h4', h5'⟩ := id gy.sh
  dsimp only at h1 h2 h5 h1' h2' h5'
  subst h1 h2 h5 h1' h2' h5'
  have hm1 := mul64 h3 h3'
  have hm2 := mul64 h4 h4'
  subst hR hC
  have hs1 : decide ((0 : Int) ≤ ((r * p : Nat) : Int) ∧ ((r * p : Nat) : Int) ≤ 64) = true := decide_eq_true (by omega)
  have hs2 : decide ((0 : Int) ≤ ((c * q : Nat) : Int) ∧ ((c * q : Nat) : Int) ≤ 64) = true := decide_eq_true (by omega)
  refine enter Try.func11 rfl rfl rfl ?_
  have hF := Fr.refl w
  repeat' (first | (refine TL.isOp ?_; first | (refine TL.isG ?_; first | refine TL.grun rfl rfl rfl ?_ | refine TL.gskip rfl rfl rfl rfl ?_ | refine TL.gskipU rfl rfl rfl ?_) | (refine TL.isCall ?_; refine TL.call rfl rfl ?_; first | (refine (check_ok _ _ _ _ _ hSn hsd (by omega)).mono ?_; rintro _ wc ⟨rfl, hE⟩; clear hSn; replace hF := hF.exts hE; clear hE; refine Back.mk ?_) | (refine (side_ok _ _ _ hs1).clX.mono ?_; rintro _ wc ⟨rfl, _, hE⟩; replace hF := hF.exts hE; clear hE; refine Back.mk ?_) | (refine (side_ok _ _ _ hs2).clX.mono ?_; rintro _ wc ⟨rfl, _, hE⟩; replace hF := hF.exts hE; clear hE; refine Back.mk ?_) | (refine (build_ok _ (r * p) (c * q) hR64 hC64 35 [.pointer (some ⟨b2, 0, none⟩), .pointer (some ⟨b3, 0, none⟩)] inferInstance (fun i j => ival (l.getD (i / p * c + j / q) default) * ival (l'.getD (i % p * q + j % q) default)) (Kx + Ky) (fun i j w1 hi hj hE1 => kron1_ok w1 r c p q i j Kx Ky A A' k k' l l' b2 b3 (gx.ext (hF.exts hE1).ext) (gy.ext (hF.exts hE1).ext) hx hy ((hF.var (by repeat (first | exact InV.head | apply InV.tail))).ext hE1) ((hF.var (by repeat (first | exact InV.head | apply InV.tail))).ext hE1) hi hj (by omega) (by omega))).mono ?_; rintro _ wp ⟨z, rfl, hLp, hE, hf⟩; have hsz := hF.ext.size; replace hF := Fr.addLM hF hE hLp hf; clear hE; refine Back.mk ?_)) | (refine TL.isBin ?_; refine TL.cmpG rfl rfl rfl rfl (fun hc => ?_) (fun hc => ?_) <;> (try (first | (exfalso; omega) | exact absurd rfl hc))) | (apply TL.ev; (case hd => rfl); (case h => (first | exact ev_simple rfl | (apply Ev.isBin; first | exact ev_arN rfl rfl rfl (by omega) | exact ev_arI rfl rfl rfl (by omega) | exact ev_eqlB (r := true) rfl rfl rfl | exact ev_eqlB (r := false) rfl rfl rfl | exact ev_neqB (r := true) rfl rfl rfl | exact ev_neqB (r := false) rfl rfl rfl) | (apply Ev.isLoad; first | exact ev_loadFr hF rfl (by refine ⟨?_, ?_⟩; (focus (repeat (first | exact InV.head | apply InV.tail))); rfl) | exact ev_loadAFr hF rfl (by refine ⟨?_, ?_⟩; (focus (repeat (first | exact InV.head | apply InV.tail))); rfl)) | exact ev_len rfl | exact ev_fieldAddr rfl | exact ev_field rfl rfl | exact ev_fieldA rfl rfl | exact ev_buildX rfl rfl | exact ev_makeFunc rfl | exact ev_nilCheck rfl | exact ev_neg rfl (by omega) | exact ev_cap rfl))) | (refine TL.storeAFr hF rfl rfl rfl rfl (by refine ⟨?_, ?_⟩; (focus (repeat (first | apply SetV.head | apply SetV.tail))); rfl) rfl ?_; clear hF; intro ws hF) | (refine TL.storeFr hF rfl rfl rfl rfl (by refine ⟨?_, ?_⟩; (focus (repeat (first | apply SetV.head | apply SetV.tail))); rfl) rfl ?_; clear hF; intro ws hF) | (refine TL.boxAFr hF (d := 2) (cs := [.int .i64 (r : Int), .int .i64 (c : Int), .slice A (r * c) k]) rfl rfl ?_; clear hF; intro w2 b2 hF) | (refine TL.boxAFr hF (d := 3) (cs := [.int .i64 (p : Int), .int .i64 (q : Int), .slice A' (p * q) k']) rfl rfl ?_; clear hF; intro w3 b3 hF) | (refine TL.allocFr hF (d := 4) rfl rfl ?_; clear hF; intro w4 b4 hF) | (refine TL.buildX2 (f := mvc) (u := ⟨r, c, A, r * c, k, l⟩) (v := ⟨p, q, A', p * q, k', l'⟩) rfl rfl rfl rfl rfl rfl rfl rfl rfl rfl (fun wn bn ebn hSn hEn hzn => ?_); replace hF := hF.exts hEn; clear ebn hEn hzn) | (refine TL.boxAFr hF rfl rfl ?_; clear hF; intro wb bb hF) | (refine TL.boxFr hF rfl rfl ?_; clear hF; intro wb bb hF) | (refine TL.allocFr hF rfl rfl ?_; clear hF; intro wa ba hF)) | (refine T.is ?_; first | refine T.seq ?_ | refine T.region ?_ | refine T.block ?_ | refine T.cond_t rfl ?_ | refine T.cond_f rfl ?_ | refine T.exit ?_ | refine T.ret ?_ | refine T.skip ?_ | refine T.regionQ mixed (by kernel_rfl) ?_) | (refine G.is ?_; first | refine G.next ?_ | refine G.blockN ?_ | refine G.blockE ?_ | refine G.blockE' rfl ?_ | refine G.blockR ?_ | refine G.thenE ?_ | refine G.thenR ?_ | refine G.only ?_) | refine TL.nil ?_ | (refine TL.nilFr hF ?_; clear hF; intro wq hF))
  exact G.retC2 rfl rfl rfl (held_agg (hF.var (by repeat (first | exact InV.head | apply InV.tail))) rfl) ⟨z, rfl, Fr.lm hF (by repeat (first | exact memH | apply memT)), hF.ext, hf.mono hsz⟩

set_option maxRecDepth 100000 in
set_option maxHeartbeats 16000000 in
theorem mkron_large (w : World) (x y : MV) (r c p q : Nat) (sx : Sound x r c) (sy : Sound y p q) (hne : 64 < r * p ∨ 64 < c * q) :
    Cl Try.prog 11 #[.agg (mvc x).toArray, .agg (mvc y).toArray] w (RetMF w 5) := by
  have hsd := sound_two sx sy
  obtain ⟨xr, xc, A, n, k, l⟩ := x
  obtain ⟨yr, yc, A', n', k', l'⟩ := y
  obtain ⟨h1, h2, h3, h4, h5⟩ := id sx
  obtain ⟨h1', h2', h3', h4', h5'⟩ := id sy
  dsimp only at h1 h2 h5 h1' h2' h5'
  subst h1 h2 h5 h1' h2' h5'
  have hm1 := mul64 h3 h3'
  have hm2 := mul64 h4 h4'
  rcases Nat.lt_or_ge 64 (r * p) with hr | hr
  · have hs1 : decide ((0 : Int) ≤ ((r * p : Nat) : Int) ∧ ((r * p : Nat) : Int) ≤ 64) = false := decide_eq_false (by omega)
    refine enter Try.func11 rfl rfl rfl ?_
    have hF := Fr.refl w
    repeat' (first | (refine TL.isOp ?_; first | (refine TL.isG ?_; first | refine TL.grun rfl rfl rfl ?_ | refine TL.gskip rfl rfl rfl rfl ?_ | refine TL.gskipU rfl rfl rfl ?_) | (refine TL.isCall ?_; refine TL.call rfl rfl ?_; first | (refine (check_ok _ _ _ _ _ hSn hsd (by omega)).mono ?_; rintro _ wc ⟨rfl, hE⟩; clear hSn; replace hF := hF.exts hE; clear hE; refine Back.mk ?_) | (refine (side_ok _ _ _ hs1).clX.mono ?_; rintro _ wc ⟨rfl, _, hE⟩; replace hF := hF.exts hE; clear hE; refine Back.mk ?_)) | (refine TL.isBin ?_; refine TL.cmpG rfl rfl rfl rfl (fun hc => ?_) (fun hc => ?_) <;> (try (first | (exfalso; omega) | exact absurd rfl hc))) | (apply TL.ev; (case hd => rfl); (case h => (first | exact ev_simple rfl | (apply Ev.isBin; first | exact ev_arN rfl rfl rfl (by omega) | exact ev_arI rfl rfl rfl (by omega) | exact ev_eqlB (r := true) rfl rfl rfl | exact ev_eqlB (r := false) rfl rfl rfl | exact ev_neqB (r := true) rfl rfl rfl | exact ev_neqB (r := false) rfl rfl rfl) | (apply Ev.isLoad; first | exact ev_loadFr hF rfl (by refine ⟨?_, ?_⟩; (focus (repeat (first | exact InV.head | apply InV.tail))); rfl) | exact ev_loadAFr hF rfl (by refine ⟨?_, ?_⟩; (focus (repeat (first | exact InV.head | apply InV.tail))); rfl)) | exact ev_len rfl | exact ev_fieldAddr rfl | exact ev_field rfl rfl | exact ev_fieldA rfl rfl | exact ev_buildX rfl rfl | exact ev_makeFunc rfl | exact ev_nilCheck rfl | exact ev_neg rfl (by omega) | exact ev_cap rfl))) | (refine TL.storeAFr hF rfl rfl rfl rfl (by refine ⟨?_, ?_⟩; (focus (repeat (first | apply SetV.head | apply SetV.tail))); rfl) rfl ?_; clear hF; intro ws hF) | (refine TL.storeFr hF rfl rfl rfl rfl (by refine ⟨?_, ?_⟩; (focus (repeat (first | apply SetV.head | apply SetV.tail))); rfl) rfl ?_; clear hF; intro ws hF) | (refine TL.boxAFr hF (d := 2) (cs := [.int .i64 (r : Int), .int .i64 (c : Int), .slice A (r * c) k]) rfl rfl ?_; clear hF; intro w2 b2 hF) | (refine TL.boxAFr hF (d := 3) (cs := [.int .i64 (p : Int), .int .i64 (q : Int), .slice A' (p * q) k']) rfl rfl ?_; clear hF; intro w3 b3 hF) | (refine TL.allocFr hF (d := 4) rfl rfl ?_; clear hF; intro w4 b4 hF) | (refine TL.buildX2 (f := mvc) (u := ⟨r, c, A, r * c, k, l⟩) (v := ⟨p, q, A', p * q, k', l'⟩) rfl rfl rfl rfl rfl rfl rfl rfl rfl rfl (fun wn bn ebn hSn hEn hzn => ?_); replace hF := hF.exts hEn; clear ebn hEn hzn) | (refine TL.boxAFr hF rfl rfl ?_; clear hF; intro wb bb hF) | (refine TL.boxFr hF rfl rfl ?_; clear hF; intro wb bb hF) | (refine TL.allocFr hF rfl rfl ?_; clear hF; intro wa ba hF)) | (refine T.is ?_; first | refine T.seq ?_ | refine T.region ?_ | refine T.block ?_ | refine T.cond_t rfl ?_ | refine T.cond_f rfl ?_ | refine T.exit ?_ | refine T.ret ?_ | refine T.skip ?_ | refine T.regionQ mixed (by kernel_rfl) ?_) | (refine G.is ?_; first | refine G.next ?_ | refine G.blockN ?_ | refine G.blockE ?_ | refine G.blockE' rfl ?_ | refine G.blockR ?_ | refine G.thenE ?_ | refine G.thenR ?_ | refine G.only ?_) | refine TL.nil ?_ | (refine TL.nilFr hF ?_; clear hF; intro wq hF))
    exact G.retC2 rfl rfl rfl (held_agg (hF.var (by repeat (first | exact InV.head | apply InV.tail))) rfl) ⟨rfl, hF.ext⟩
  · have hs1 : decide ((0 : Int) ≤ ((r * p : Nat) : Int) ∧ ((r * p : Nat) : Int) ≤ 64) = true := decide_eq_true (by omega)
    have hs2 : decide ((0 : Int) ≤ ((c * q : Nat) : Int) ∧ ((c * q : Nat) : Int) ≤ 64) = false := decide_eq_false (by omega)
    refine enter Try.func11 rfl rfl rfl ?_
    have hF := Fr.refl w
    repeat' (first | (refine TL.isOp ?_; first | (refine TL.isG ?_; first | refine TL.grun rfl rfl rfl ?_ | refine TL.gskip rfl rfl rfl rfl ?_ | refine TL.gskipU rfl rfl rfl ?_) | (refine TL.isCall ?_; refine TL.call rfl rfl ?_; first | (refine (check_ok _ _ _ _ _ hSn hsd (by omega)).mono ?_; rintro _ wc ⟨rfl, hE⟩; clear hSn; replace hF := hF.exts hE; clear hE; refine Back.mk ?_) | (refine (side_ok _ _ _ hs1).clX.mono ?_; rintro _ wc ⟨rfl, _, hE⟩; replace hF := hF.exts hE; clear hE; refine Back.mk ?_) | (refine (side_ok _ _ _ hs2).clX.mono ?_; rintro _ wc ⟨rfl, _, hE⟩; replace hF := hF.exts hE; clear hE; refine Back.mk ?_)) | (refine TL.isBin ?_; refine TL.cmpG rfl rfl rfl rfl (fun hc => ?_) (fun hc => ?_) <;> (try (first | (exfalso; omega) | exact absurd rfl hc))) | (apply TL.ev; (case hd => rfl); (case h => (first | exact ev_simple rfl | (apply Ev.isBin; first | exact ev_arN rfl rfl rfl (by omega) | exact ev_arI rfl rfl rfl (by omega) | exact ev_eqlB (r := true) rfl rfl rfl | exact ev_eqlB (r := false) rfl rfl rfl | exact ev_neqB (r := true) rfl rfl rfl | exact ev_neqB (r := false) rfl rfl rfl) | (apply Ev.isLoad; first | exact ev_loadFr hF rfl (by refine ⟨?_, ?_⟩; (focus (repeat (first | exact InV.head | apply InV.tail))); rfl) | exact ev_loadAFr hF rfl (by refine ⟨?_, ?_⟩; (focus (repeat (first | exact InV.head | apply InV.tail))); rfl)) | exact ev_len rfl | exact ev_fieldAddr rfl | exact ev_field rfl rfl | exact ev_fieldA rfl rfl | exact ev_buildX rfl rfl | exact ev_makeFunc rfl | exact ev_nilCheck rfl | exact ev_neg rfl (by omega) | exact ev_cap rfl))) | (refine TL.storeAFr hF rfl rfl rfl rfl (by refine ⟨?_, ?_⟩; (focus (repeat (first | apply SetV.head | apply SetV.tail))); rfl) rfl ?_; clear hF; intro ws hF) | (refine TL.storeFr hF rfl rfl rfl rfl (by refine ⟨?_, ?_⟩; (focus (repeat (first | apply SetV.head | apply SetV.tail))); rfl) rfl ?_; clear hF; intro ws hF) | (refine TL.boxAFr hF (d := 2) (cs := [.int .i64 (r : Int), .int .i64 (c : Int), .slice A (r * c) k]) rfl rfl ?_; clear hF; intro w2 b2 hF) | (refine TL.boxAFr hF (d := 3) (cs := [.int .i64 (p : Int), .int .i64 (q : Int), .slice A' (p * q) k']) rfl rfl ?_; clear hF; intro w3 b3 hF) | (refine TL.allocFr hF (d := 4) rfl rfl ?_; clear hF; intro w4 b4 hF) | (refine TL.buildX2 (f := mvc) (u := ⟨r, c, A, r * c, k, l⟩) (v := ⟨p, q, A', p * q, k', l'⟩) rfl rfl rfl rfl rfl rfl rfl rfl rfl rfl (fun wn bn ebn hSn hEn hzn => ?_); replace hF := hF.exts hEn; clear ebn hEn hzn) | (refine TL.boxAFr hF rfl rfl ?_; clear hF; intro wb bb hF) | (refine TL.boxFr hF rfl rfl ?_; clear hF; intro wb bb hF) | (refine TL.allocFr hF rfl rfl ?_; clear hF; intro wa ba hF)) | (refine T.is ?_; first | refine T.seq ?_ | refine T.region ?_ | refine T.block ?_ | refine T.cond_t rfl ?_ | refine T.cond_f rfl ?_ | refine T.exit ?_ | refine T.ret ?_ | refine T.skip ?_ | refine T.regionQ mixed (by kernel_rfl) ?_) | (refine G.is ?_; first | refine G.next ?_ | refine G.blockN ?_ | refine G.blockE ?_ | refine G.blockE' rfl ?_ | refine G.blockR ?_ | refine G.thenE ?_ | refine G.thenR ?_ | refine G.only ?_) | refine TL.nil ?_ | (refine TL.nilFr hF ?_; clear hF; intro wq hF))
    exact G.retC2 rfl rfl rfl (held_agg (hF.var (by repeat (first | exact InV.head | apply InV.tail))) rfl) ⟨rfl, hF.ext⟩

end Go.Proofs.Ytlhmehikajidhaa

namespace Go.Proofs.Ytlhmehikajidhaa
open Go Go.Eng Go.Proofs Go.NatM Go.RowKit

/-- where p: no ErrMat; else ErrMat alone -/
def RetUn (p : Prop) (w : World) (e : Ending) (w' : World) : Prop := ∃ (a : AV) (s : AS) (K : Nat), e = .returned (.agg (avc a).toArray) ∧ AOK w'.heap a s K ∧ Ext w w' ∧ AF w a ∧ K ≤ 1099511627776 ∧ (p → s.e ≠ 1) ∧ (¬ p → AS.Eqv s (sE 1))
theorem RetUn.yes {p : Prop} {w w' : World} {e : Ending} {s : AS} {K : Nat} (h : RetA w s K e w') (hp : p) (hs : s.e ≠ 1) (hK : K ≤ 1099511627776) : RetUn p w e w' := by
  obtain ⟨a, h1, h2, h3, h4⟩ := h
  exact ⟨a, s, K, h1, h2, h3, h4, hK, fun _ => hs, fun h => absurd hp h⟩
theorem RetUn.no {p : Prop} {w w' : World} {e : Ending} {s : AS} {K : Nat} (h : RetA w s K e w') (hp : ¬ p) (hs : AS.Eqv s (sE 1)) (hK : K ≤ 1099511627776) : RetUn p w e w' := by
  obtain ⟨a, h1, h2, h3, h4⟩ := h
  exact ⟨a, s, K, h1, h2, h3, h4, hK, fun h => absurd h hp, fun _ => hs⟩
theorem eqv_x : AS.Eqv (sX 0 0 (fun _ _ => 0) 1) (sE 1) := AS.Eqv.rfl _
def mz : MV := ⟨0, 0, none, 0, 0, []⟩
def iz : IV := ⟨false, ⟨none, 0, 0, []⟩⟩
/-- a call of one matrix -/
def op1 (k : Int) (x : MV) : OV := ⟨k, x, mz, ⟨none, 0, 0, []⟩, iz, 0, 0, none, 0, 0, [], none, 0, 0, [], none, 0, 0, []⟩
def op2 (k : Int) (x y : MV) : OV := { op1 k x with b := y }
def opS (k : Int) (A : Option Addr) (n c : Nat) (l : List MV) : OV := { op1 k mz with sA := A, sn := n, sk := c, s := l }
theorem RM.ext {w w' : World} {x : MV} {K : Nat} (hE : Ext w w') (h : RM w.heap x K) : RM w'.heap x K := ⟨(h.s.ext hE).size, fun y hy => ⟨(h.g y hy).1.ext hE, (h.g y hy).2⟩⟩
abbrev PL (o : OV) (p : Prop) (w : World) : Prop := Cl Try.prog 30 #[.agg (ovc o).toArray] w (RetUn p w)
theorem gi_iz (H : Array Obj) : GI H iz := (li_nought H).g
theorem two_gm {w : World} {x y : MV} {K : Nat} (rx : RM w.heap x K) (ry : RM w.heap y K) (h : Snd x ∧ Snd y) {w1 : World} (hE : Ext w w1) : ∀ z ∈ [x, y], GM w1.heap z (nr z) (nc z) K := by
  intro z hz
  simp only [List.mem_cons, List.not_mem_nil, or_false] at hz
  rcases hz with rfl | rfl
  · exact (rx.gm h.1.nat).ext hE
  · exact (ry.gm h.2.nat).ext hE
section
variable (w : World) (x y : MV) (K : Nat) (hK : K ≤ 1048576) (rx : RM w.heap x K) (ix : InR x) (ry : RM w.heap y K) (iy : InR y)
include hK rx ix
theorem u3 : PL (op1 3 x) (Snd x) w := by
  by_cases h : Snd x
  · obtain ⟨r, c, hs⟩ := id h
    exact (plays3 w (op1 3 x) rfl r c _ 0 K fun w1 hE => (mleast_ok w1 x r c K ((rx.gm hs).ext hE) (by omega)).mono fun e w' q => RetME.x q).mono fun e w' q => RetUn.yes q h (by simp [sX, sE]) (by omega)
  · exact (plays3 w (op1 3 x) rfl 0 0 (fun _ _ => 0) 1 0 fun w1 hE => (mleast_bad w1 x ix h).mono fun e w' q => RetMF.x _ _ q).mono fun e w' q => RetUn.no q h eqv_x (by omega)
theorem u10 : PL (op1 10 x) (Snd x) w := by
  by_cases h : Snd x
  · obtain ⟨r, c, hs⟩ := id h
    exact (plays10 w (op1 10 x) rfl r c _ 0 (0 + K) fun w1 hE => (mscale_ok w1 iz x r c 0 K (gi_iz _) (Nat.le_refl _) ((rx.gm hs).ext hE) (by omega) (by omega)).mono fun e w' q => RetME.x q).mono fun e w' q => RetUn.yes q h (by simp [sX, sE]) (by omega)
  · exact (plays10 w (op1 10 x) rfl 0 0 (fun _ _ => 0) 1 0 fun w1 hE => (mscale_bad w1 x iz ix h).mono fun e w' q => RetMF.x _ _ q).mono fun e w' q => RetUn.no q h eqv_x (by omega)
theorem u12 (A : Option Addr) (k : Nat) (l : List IV) (hs : Sm 2 ivc w.heap w.heap.size A 1 k l) (hg : ∀ z ∈ l, GI w.heap z ∧ z.m.n ≤ 1) : PL { op1 12 x with l := ⟨A, 1, k, l⟩ } (Snd x) w := by
  by_cases h : Snd x
  · obtain ⟨r, c, hS⟩ := id h
    by_cases hr : r = 1
    · subst hr
      exact (plays12 w { op1 12 x with l := ⟨A, 1, k, l⟩ } rfl c _ 0 (1 + K + 1) fun w1 hE => (mvec_ok w1 A k l x 1 c 1 K (hs.ext hE).size (fun z hz => ⟨(hg z hz).1.ext hE, (hg z hz).2⟩) ((rx.gm hS).ext hE) (by omega) (by omega)).mono fun e w' q => RetLE.v q).mono fun e w' q => RetUn.yes q h (by simp [sL, sE]) (by omega)
    · exact (plays12 w { op1 12 x with l := ⟨A, 1, k, l⟩ } rfl 0 (fun _ => 0) 2 0 fun w1 hE => (mvec_unfit w1 A 1 k x r c hS (Ne.symm hr)).mono fun e w' q => RetLF.v _ _ q).mono fun e w' q => RetUn.yes q h (by simp [sL, sE]) (by omega)
  · exact (plays12 w { op1 12 x with l := ⟨A, 1, k, l⟩ } rfl 0 (fun _ => 0) 1 0 fun w1 hE => (mvec_bad w1 x A 1 k ix h).mono fun e w' q => RetLF.v _ _ q).mono fun e w' q => RetUn.no q h (AS.Eqv.rfl _) (by omega)
theorem u14 : PL (op1 14 x) (Snd x) w := by
  by_cases h : Snd x
  · obtain ⟨r, c, hs⟩ := id h
    exact (plays14 w (op1 14 x) rfl c r _ 0 K fun w1 hE => (mturn_ok w1 x r c K ((rx.gm hs).ext hE) (by omega)).mono fun e w' q => RetME.x q).mono fun e w' q => RetUn.yes q h (by simp [sX, sE]) (by omega)
  · exact (plays14 w (op1 14 x) rfl 0 0 (fun _ _ => 0) 1 0 fun w1 hE => (mturn_bad w1 x ix h).mono fun e w' q => RetMF.x _ _ q).mono fun e w' q => RetUn.no q h eqv_x (by omega)
theorem u15 : PL (op1 15 x) (Snd x) w := by
  by_cases h : Snd x
  · obtain ⟨r, c, hs⟩ := id h
    by_cases hr : r = c
    · subst hr
      exact (plays15 w (op1 15 x) rfl _ 0 (K + r) fun w1 hE => (mtrace_ok w1 x r K ((rx.gm hs).ext hE) (by omega)).mono fun e w' q => RetZE.y q).mono fun e w' q => RetUn.yes q h (by simp [sY, sE]) (by have := hs.r64; omega)
    · exact (plays15 w (op1 15 x) rfl 0 2 0 fun w1 hE => (mtrace_unfit w1 x r c hs hr).mono fun e w' q => RetZF.y _ q).mono fun e w' q => RetUn.yes q h (by simp [sY, sE]) (by omega)
  · exact (plays15 w (op1 15 x) rfl 0 1 0 fun w1 hE => (mtrace_bad w1 x ix h).mono fun e w' q => RetZF.y _ q).mono fun e w' q => RetUn.no q h (AS.Eqv.rfl _) (by omega)
theorem u16 (A : Option Addr) (k : Nat) (l : List Int) (hs : Sl i64v w.heap w.heap.size A 1 k l) : PL { op1 16 x with pA := A, pn := 1, pk := k, p := l } (Snd x) w := by
  by_cases h : Snd x
  · obtain ⟨r, c, hS⟩ := id h
    have hp := fun w1 (hE : Ext w w1) => mpick_ok w1 x r c K ((rx.gm hS).ext hE) (by omega) A none 1 k 0 0 l [] (hs.ext hE).size (Sl.nil _ _ _ _ _) (by omega) (by omega)
    unfold RetPick at hp
    split at hp
    · split at hp
      · exact (plays16 w { op1 16 x with pA := A, pn := 1, pk := k, p := l } rfl _ _ _ 0 K fun w1 hE => (hp w1 hE).mono fun e w' q => RetME.x q).mono fun e w' q => RetUn.yes q h (by simp [sX, sE]) (by omega)
      · exact (plays16 w { op1 16 x with pA := A, pn := 1, pk := k, p := l } rfl 0 0 (fun _ _ => 0) 5 0 fun w1 hE => (hp w1 hE).mono fun e w' q => RetMF.x _ _ q).mono fun e w' q => RetUn.yes q h (by simp [sX, sE]) (by omega)
    · exact (plays16 w { op1 16 x with pA := A, pn := 1, pk := k, p := l } rfl 0 0 (fun _ _ => 0) 3 0 fun w1 hE => (hp w1 hE).mono fun e w' q => RetMF.x _ _ q).mono fun e w' q => RetUn.yes q h (by simp [sX, sE]) (by omega)
  · exact (plays16 w { op1 16 x with pA := A, pn := 1, pk := k, p := l } rfl 0 0 (fun _ _ => 0) 1 0 fun w1 hE => (mpick_bad w1 x A none 1 k 0 0 ix h).mono fun e w' q => RetMF.x _ _ q).mono fun e w' q => RetUn.no q h eqv_x (by omega)
theorem u13 (z : Int) : PL { op1 13 x with n := z } (Snd x) w := by
  by_cases h : Snd x
  · obtain ⟨r, c, hS⟩ := id h
    by_cases hz : r = c ∧ 0 ≤ z ∧ z ≤ 256
    · obtain ⟨rfl, h0, h1⟩ := hz
      obtain ⟨k, rfl⟩ := Int.eq_ofNat_of_zero_le h0
      exact (plays13 w { op1 13 x with n := (k : Int) } rfl r r _ 0 (pb r K 9) fun w1 hE => (mpow_any w1 x r K k ((rx.gm hS).ext hE) hK (by omega)).mono fun e w' q => RetME.x q).mono fun e w' q => RetUn.yes q h (by simp [sX, sE]) (by have := pb_le (n := r) (Ka := K) (Nat.le_refl 9); have := hS.r64; omega)
    · have he : powE r c z ≠ 1 := by unfold powE; split <;> (try split) <;> omega
      exact (plays13 w { op1 13 x with n := z } rfl 0 0 (fun _ _ => 0) (powE r c z) 0 fun w1 hE => (mpow_no w1 x r c z hS hz).mono fun e w' q => RetMF.x _ _ q).mono fun e w' q => RetUn.yes q h he (by omega)
  · exact (plays13 w { op1 13 x with n := z } rfl 0 0 (fun _ _ => 0) 1 0 fun w1 hE => (mpow_bad w1 x z ix h).mono fun e w' q => RetMF.x _ _ q).mono fun e w' q => RetUn.no q h eqv_x (by omega)
include ry iy
theorem u7 : PL (op2 7 x y) (Snd x ∧ Snd y) w := by
  by_cases h : Snd x ∧ Snd y
  · obtain ⟨⟨r, c, hx⟩, ⟨r', c', hy⟩⟩ := id h
    have he := fun w1 (hE : Ext w w1) => mequal_ok w1 x y r c r' c' K K ((rx.gm hx).ext hE) ((ry.gm hy).ext hE) (by omega) (by omega)
    have hb : ∃ b : Bool, (b = true ↔ (r = r' ∧ c = c' ∧ ∀ q, q < r * c → ival (x.l.getD q default) = ival (y.l.getD q default))) := by
      have := Classical.propDecidable (r = r' ∧ c = c' ∧ ∀ q, q < r * c → ival (x.l.getD q default) = ival (y.l.getD q default))
      exact ⟨decide _, decide_eq_true_iff⟩
    obtain ⟨b, hb⟩ := hb
    exact (plays7 w (op2 7 x y) rfl b 0 0 fun w1 hE => (he w1 hE).mono fun e w' ⟨b', h1, h2, h3⟩ => by
      obtain rfl : b' = b := Bool.eq_iff_iff.2 (h1.trans hb.symm)
      exact ⟨h2, h3⟩).mono fun e w' q => RetUn.yes q h (by simp [sB, sE]) (by omega)
  · exact (plays7 w (op2 7 x y) rfl false 1 0 fun w1 hE => (mequal_bad w1 x y ix iy h).mono fun e w' q => q).mono fun e w' q => RetUn.no q h (AS.Eqv.rfl _) (by omega)
theorem u8 : PL (op2 8 x y) (Snd x ∧ Snd y) w := by
  by_cases h : Snd x ∧ Snd y
  · obtain ⟨⟨r, c, hx⟩, ⟨r', c', hy⟩⟩ := id h
    by_cases hrc : r = r' ∧ c = c'
    · obtain ⟨rfl, rfl⟩ := hrc
      exact (plays8 w (op2 8 x y) rfl r c _ 0 (max K K + 1) fun w1 hE => (madd_ok w1 x y r c K K ((rx.gm hx).ext hE) ((ry.gm hy).ext hE) (by omega) (by omega)).mono fun e w' q => RetME.x q).mono fun e w' q => RetUn.yes q h (by simp [sX, sE]) (by omega)
    · exact (plays8 w (op2 8 x y) rfl 0 0 (fun _ _ => 0) 2 0 fun w1 hE => (madd_unfit w1 x y r c r' c' hx hy hrc).mono fun e w' q => RetMF.x _ _ q).mono fun e w' q => RetUn.yes q h (by simp [sX, sE]) (by omega)
  · exact (plays8 w (op2 8 x y) rfl 0 0 (fun _ _ => 0) 1 0 fun w1 hE => (madd_bad w1 x y ix iy h).mono fun e w' q => RetMF.x _ _ q).mono fun e w' q => RetUn.no q h eqv_x (by omega)
theorem u9 : PL (op2 9 x y) (Snd x ∧ Snd y) w := by
  by_cases h : Snd x ∧ Snd y
  · obtain ⟨⟨r, c, hx⟩, ⟨r', c', hy⟩⟩ := id h
    by_cases hrc : r = r' ∧ c = c'
    · obtain ⟨rfl, rfl⟩ := hrc
      exact (plays9 w (op2 9 x y) rfl r c _ 0 (max K K + 1) fun w1 hE => (msub_ok w1 x y r c K K ((rx.gm hx).ext hE) ((ry.gm hy).ext hE) (by omega) (by omega)).mono fun e w' q => RetME.x q).mono fun e w' q => RetUn.yes q h (by simp [sX, sE]) (by omega)
    · exact (plays9 w (op2 9 x y) rfl 0 0 (fun _ _ => 0) 2 0 fun w1 hE => (msub_unfit w1 x y r c r' c' hx hy hrc).mono fun e w' q => RetMF.x _ _ q).mono fun e w' q => RetUn.yes q h (by simp [sX, sE]) (by omega)
  · exact (plays9 w (op2 9 x y) rfl 0 0 (fun _ _ => 0) 1 0 fun w1 hE => (msub_bad w1 x y ix iy h).mono fun e w' q => RetMF.x _ _ q).mono fun e w' q => RetUn.no q h eqv_x (by omega)
theorem u11 : PL (op2 11 x y) (Snd x ∧ Snd y) w := by
  by_cases h : Snd x ∧ Snd y
  · obtain ⟨⟨r, c, hx⟩, ⟨r', c', hy⟩⟩ := id h
    by_cases hrc : c = r'
    · subst hrc
      exact (plays11 w (op2 11 x y) rfl r c' _ 0 (K + K + c) fun w1 hE => (mmul_ok w1 x y r c c' K K ((rx.gm hx).ext hE) ((ry.gm hy).ext hE) (by omega) (by omega)).mono fun e w' q => RetME.x q).mono fun e w' q => RetUn.yes q h (by simp [sX, sE]) (by have := hx.c64; omega)
    · exact (plays11 w (op2 11 x y) rfl 0 0 (fun _ _ => 0) 2 0 fun w1 hE => (mmul_unfit w1 x y r c r' c' hx hy hrc).mono fun e w' q => RetMF.x _ _ q).mono fun e w' q => RetUn.yes q h (by simp [sX, sE]) (by omega)
  · exact (plays11 w (op2 11 x y) rfl 0 0 (fun _ _ => 0) 1 0 fun w1 hE => (mmul_bad w1 x y ix iy h).mono fun e w' q => RetMF.x _ _ q).mono fun e w' q => RetUn.no q h eqv_x (by omega)
theorem u19 : PL (op2 19 x y) (Snd x ∧ Snd y) w := by
  by_cases h : Snd x ∧ Snd y
  · obtain ⟨⟨r, c, hx⟩, ⟨r', c', hy⟩⟩ := id h
    by_cases hrc : r * r' ≤ 64 ∧ c * c' ≤ 64
    · exact (plays19 w (op2 19 x y) rfl (r * r') (c * c') _ 0 (K + K) fun w1 hE => (mkron_ok w1 x y r c r' c' _ _ K K ((rx.gm hx).ext hE) ((ry.gm hy).ext hE) (by omega) (by omega) rfl rfl hrc.1 hrc.2).mono fun e w' q => RetME.x q).mono fun e w' q => RetUn.yes q h (by simp [sX, sE]) (by omega)
    · exact (plays19 w (op2 19 x y) rfl 0 0 (fun _ _ => 0) 5 0 fun w1 hE => (mkron_large w1 x y r c r' c' hx hy (by omega)).mono fun e w' q => RetMF.x _ _ q).mono fun e w' q => RetUn.yes q h (by simp [sX, sE]) (by omega)
  · exact (plays19 w (op2 19 x y) rfl 0 0 (fun _ _ => 0) 1 0 fun w1 hE => (mkron_bad w1 x y ix iy h).mono fun e w' q => RetMF.x _ _ q).mono fun e w' q => RetUn.no q h eqv_x (by omega)
theorem u17 (A : Option Addr) (k : Nat) (hs : Sm 3 mvc w.heap w.heap.size A 2 k [x, y]) : PL (opS 17 A 2 k [x, y]) (Snd x ∧ Snd y) w := by
  by_cases h : Snd x ∧ Snd y
  · have hp := fun w1 (hE : Ext w w1) => mstack_ok w1 A 2 k [x, y] K (hs.ext hE).size (two_gm rx ry h hE) (by omega) (by omega)
    unfold RetStack at hp
    split at hp
    · split at hp
      · exact (plays17 w (opS 17 A 2 k [x, y]) rfl _ _ _ 0 K fun w1 hE => (hp w1 hE).mono fun e w' q => RetME.x q).mono fun e w' q => RetUn.yes q h (by simp [sX, sE]) (by omega)
      · exact (plays17 w (opS 17 A 2 k [x, y]) rfl 0 0 (fun _ _ => 0) 5 0 fun w1 hE => (hp w1 hE).mono fun e w' q => RetMF.x _ _ q).mono fun e w' q => RetUn.yes q h (by simp [sX, sE]) (by omega)
    · exact (plays17 w (opS 17 A 2 k [x, y]) rfl 0 0 (fun _ _ => 0) 2 0 fun w1 hE => (hp w1 hE).mono fun e w' q => RetMF.x _ _ q).mono fun e w' q => RetUn.yes q h (by simp [sX, sE]) (by omega)
  · exact (plays17 w (opS 17 A 2 k [x, y]) rfl 0 0 (fun _ _ => 0) 1 0 fun w1 hE => (mstack_bad w1 A 2 k [x, y] (hs.ext hE).size (two_inR ix iy) (two_bad h) (by omega)).mono fun e w' q => RetMF.x _ _ q).mono fun e w' q => RetUn.no q h eqv_x (by omega)
theorem u18 (A : Option Addr) (k : Nat) (hs : Sm 3 mvc w.heap w.heap.size A 2 k [x, y]) : PL (opS 18 A 2 k [x, y]) (Snd x ∧ Snd y) w := by
  by_cases h : Snd x ∧ Snd y
  · have hp := fun w1 (hE : Ext w w1) => mbeside_ok w1 A 2 k [x, y] K (hs.ext hE).size (two_gm rx ry h hE) (by omega) (by omega)
    unfold RetBeside at hp
    split at hp
    · split at hp
      · exact (plays18 w (opS 18 A 2 k [x, y]) rfl _ _ _ 0 K fun w1 hE => (hp w1 hE).mono fun e w' q => RetME.x q).mono fun e w' q => RetUn.yes q h (by simp [sX, sE]) (by omega)
      · exact (plays18 w (opS 18 A 2 k [x, y]) rfl 0 0 (fun _ _ => 0) 5 0 fun w1 hE => (hp w1 hE).mono fun e w' q => RetMF.x _ _ q).mono fun e w' q => RetUn.yes q h (by simp [sX, sE]) (by omega)
    · exact (plays18 w (opS 18 A 2 k [x, y]) rfl 0 0 (fun _ _ => 0) 2 0 fun w1 hE => (hp w1 hE).mono fun e w' q => RetMF.x _ _ q).mono fun e w' q => RetUn.yes q h (by simp [sX, sE]) (by omega)
  · exact (plays18 w (opS 18 A 2 k [x, y]) rfl 0 0 (fun _ _ => 0) 1 0 fun w1 hE => (mbeside_bad w1 A 2 k [x, y] (hs.ext hE).size (two_inR ix iy) (two_bad h) (by omega)).mono fun e w' q => RetMF.x _ _ q).mono fun e w' q => RetUn.no q h eqv_x (by omega)
end
end Go.Proofs.Ytlhmehikajidhaa

namespace Go.Eng
open Go Go.RowKit

theorem put_mid (a b z : List Value) (h : b.length ≤ z.length) : putV (a ++ z) a.length b = a ++ b ++ z.drop b.length := by
  apply List.ext_getElem?
  intro j
  rw [putV_get]
  simp only [List.length_append, List.append_assoc]
  rcases Nat.lt_or_ge j a.length with h1 | h1
  · rw [if_neg (by omega), List.getElem?_append_left h1, List.getElem?_append_left h1]
  · rw [List.getElem?_append_right h1, List.getElem?_append_right h1]
    rcases Nat.lt_or_ge (j - a.length) b.length with h2 | h2
    · rw [if_pos (by omega), List.getElem?_append_left h2]
    · rw [if_neg (by omega), List.getElem?_append_right h2, List.getElem?_drop]
      congr 1
      omega
theorem fill_all {α : Type} {f : α → List Value} {sz : Nat} : ∀ (us : List α) (i : Nat) (pre rest : List Value), (∀ u ∈ us, (f u).length = sz) → pre.length = i * sz → rest.length = us.length * sz →
    Instr.fill (fun j => some (j * sz, sz)) (pre ++ rest).toArray ((us.zipIdx i).map fun p => (p.2, Value.agg (f p.1).toArray)) = some (pre ++ us.flatMap f).toArray
  | [], i, pre, rest, _, _, hr => by
    have : rest = [] := List.eq_nil_of_length_eq_zero (by simpa using hr)
    subst this
    simp [Instr.fill]
  | u :: us, i, pre, rest, hw, hp, hr => by
    have hu := hw u (List.mem_cons_self ..)
    rw [List.length_cons, Nat.add_mul, Nat.one_mul] at hr
    have p1 : Array.foldl (fun (cs : Array Value) (p : Value × Nat) => cs.setIfInBounds (i * sz + p.2) p.1) (pre ++ rest).toArray (f u).toArray.zipIdx = (pre ++ f u ++ rest.drop sz).toArray := by
      apply Array.ext'
      have := foldl_put (f u) 0 (i * sz) (pre ++ rest).toArray
      rw [← Array.foldl_toList, Array.toList_zipIdx]
      simp only [Nat.add_zero] at this
      rw [this, ← hp]
      simp only [List.toList_toArray]
      rw [put_mid _ _ _ (by omega), hu]
    have e3 : (decide ((Value.agg (f u).toArray).cells.size ≠ sz) || decide (i * sz + (Value.agg (f u).toArray).cells.size > (pre ++ rest).toArray.size)) = false := by
      simp [Value.cells, hu]; omega
    rw [List.zipIdx_cons, List.map_cons]
    unfold Instr.fill
    simp only [e3]
    rw [show (Value.agg (f u).toArray).cells = (f u).toArray from rfl, p1]
    have ih := fill_all us (i + 1) (pre ++ f u) (rest.drop sz) (fun v hv => hw v (List.mem_cons_of_mem _ hv)) (by rw [List.length_append, hp, hu, Nat.add_mul, Nat.one_mul]) (by rw [List.length_drop]; omega)
    simp only [List.append_assoc, List.flatMap_cons] at ih ⊢
    simpa using ih
theorem rep_zeros {z : List Value} {sz : Nat} (hz : z.length = sz) (hpos : 0 < sz) (n : Nat) : ((Array.range (n * sz)).map (fun q => z.toArray[q % z.toArray.size]!)) = ((List.replicate n z).flatMap id).toArray := by
  have hf := made_flat (f := fun _ : Unit => z) (u := ()) (c := n) hpos rfl hz
  unfold madeCells at hf
  apply Array.ext'
  rw [hf]
  simp only [List.flatMap, List.map_replicate, id]
section
variable {P : Program} {N : Fm} {Q : Exit → Act → World → Prop} {σ : Store} {S : Nat → Prop} {w0 w : World} {L : List VB} {D : List DP} {ops : Array Oper} {d : Nat} {t : TypeId} {pos : String} {af : Array Edge} {rest : List Oper}
/-- a literal of structs -/
theorem TL.buildXs (hF : Fr w0 w L D S) {α : Type} {f : α → List Value} (us : List α) (xs : List Operand) {ty e : TypeId} [hT : USlice P ty e] {z : List Value} {sz b1 : Nat} [hS : USize P e (.agg z.toArray) sz b1] {n : Nat} {parts : Array (Nat × Operand)} (hp : parts = (xs.zipIdx.map fun p => (p.2, p.1)).toArray) (hn : us.length = n) (hx : looks σ xs = some (us.map fun u => Value.agg (f u).toArray)) (hd : Nat.blt d N.n = true)
    (hw : ∀ u ∈ us, (f u).length = sz) (hzl : Nat.beq z.length sz = true) (h0 : Nat.blt 0 sz = true) (hn0 : 0 < n) (hm : n * sz ≤ 1000000)
    (K : ∀ w' b, Fr w0 w' L D S → Ext w w' → w.heap.size ≤ b → Sm sz f w'.heap w'.heap.size (some ⟨b, 0, none⟩) n n us → TL P N .seq ops Q rest ((d, .slice (some ⟨b, 0, none⟩) n n) :: σ) w') :
    TL P N .seq ops Q (⟨some d, .buildSlice ty n parts, t, pos, af, none⟩ :: rest) σ w := by
  subst hp hn
  obtain ⟨i, hi, hz0, hsz, hby⟩ := hS.info
  have hzlen := Nat.eq_of_beq_eq_true hzl
  have hpos : 0 < sz := by simpa [Nat.blt_eq] using h0
  have hfl : ((List.replicate us.length z).flatMap id).length = us.length * sz := by rw [flatMap_len (k := sz) (fun x hx => by rw [(List.mem_replicate.1 hx).2]; exact hzlen)]; simp
  have hn1 : 0 < us.length * sz := Nat.mul_pos hn0 hpos
  have hfill : Instr.fill (fun j => some (j * i.size, i.size)) ((Array.range (us.length * i.size)).map (fun q => z.toArray[q % z.toArray.size]!)) (us.zipIdx.map fun p => (p.2, Value.agg (f p.1).toArray)) = some (us.flatMap f).toArray := by
    rw [hsz, rep_zeros hzlen hpos]
    have := fill_all us 0 [] ((List.replicate us.length z).flatMap id) hw (by simp) hfl
    simpa using this
  have hrun : (Instr.buildSlice ty us.length (us.zipIdx.map fun p => (p.2, Value.agg (f p.1).toArray)).toArray).run P w = .ok (.slice (some ⟨w.heap.size, 0, none⟩) us.length us.length) (w.alloc (.cells (us.flatMap f).toArray e)) := by
    refine run_buildSlice w ty e us.length _ (us.flatMap f).toArray i (.agg z.toArray) hT.out hi hz0 (by rw [hsz]; omega) (by rw [hsz]; omega) ?_
    simp only [Value.cells]
    exact hfill
  have hE := ext_alloc w (.cells (us.flatMap f).toArray e)
  have hV : Vr (w.alloc (.cells (us.flatMap f).toArray e)).heap w.heap.size e (us.flatMap f ++ []) := by unfold Vr; rw [heap_alloc]; simp
  refine TL.op (w' := w.alloc (.cells (us.flatMap f).toArray e)) (fun ρ hρ => ?_) hd (K _ _ (hF.exts hE) hE (Nat.le_refl _) (vr_sm hpos hw hV rfl (Nat.le_refl _) hV.lt))
  have h1 := hρ.list _ _ hx
  have h2 : ((xs.zipIdx.map fun p => (p.2, p.1)).toArray.map fun (p : Nat × Operand) => (p.1, ρ p.2)) = (us.zipIdx.map fun p => (p.2, Value.agg (f p.1).toArray)).toArray := by
    rw [List.map_toArray, List.map_map]
    congr 1
    have e1 : ∀ (ys : List Operand) (k : Nat), (ys.zipIdx k).map ((fun (p : Nat × Operand) => (p.1, ρ p.2)) ∘ fun p => (p.2, p.1)) = ((ys.map ρ).zipIdx k).map fun p => (p.2, p.1) := by
      intro ys
      induction ys with
      | nil => intro k; rfl
      | cons y ys ih => intro k; simp [List.zipIdx_cons]; exact ih (k + 1)
    have e2 : ∀ (vs : List α) (k : Nat), ((vs.map fun u => Value.agg (f u).toArray).zipIdx k).map (fun p => (p.2, p.1)) = (vs.zipIdx k).map fun p => (p.2, Value.agg (f p.1).toArray) := by
      intro vs
      induction vs with
      | nil => intro k; rfl
      | cons y ys ih => intro k; simp [List.zipIdx_cons]; exact ih (k + 1)
    rw [e1, h1, e2]
  simp only [execOp]
  rw [h2]
  simp [hrun]
end
/-- code that is not this region -/
def notReg (id : Nat) : Code → Bool
  | .region i _ _ => !(Nat.beq i id)
  | _ => true
theorem T.seqN {P : Program} {N : Fm} {Q : Exit → Act → World → Prop} {σ : Store} {w : World} {x y : Code} (id : Nat) (hn : notReg id x = true) (h : T P N x (Exit.then (y.wp P Q) Q) σ w) : T P N (x.seq y) Q σ w := T.seq h
theorem TI.seqN {P : Program} {R : Option Nat} {N : Fm} {Q : Exit → Act → World → Prop} {σ : Store} {w : World} {x y : Code} (id : Nat) (hn : notReg id x = true) (h : TI P R N x (Exit.then (Kc P R y Q) Q) σ w) : TI P R N (x.seq y) Q σ w := TI.seq h
theorem ev_remI {P : Program} {σ : Store} {H : Array Obj} {d : Option Tmp} {t : TypeId} {pos : String} {af : Array Edge} {gd : Option (Nat × Bool)} {x y : Operand} {tx ty : TypeId} {m n : Int} (hx : look σ x = some (.int .i64 m)) (hy : look σ y = some (.int .i64 n)) (hn : n ≠ 0) : Ev P σ H ⟨d, .binOp .rem tx x y ty, t, pos, af, gd⟩ (.int .i64 (m.tmod n)) :=
  ev_bin hx hy fun w => run_bin_rem _ _ _ hn _ _
theorem sm_sl {α : Type} {f : α → Value} {H : Array Obj} {B n c : Nat} {A : Option Addr} {l : List α} (h : Sm 1 (fun x => [f x]) H B A n c l) : Sl f H B A n c l := by
  refine ⟨h.len, h.cap, h.mem.imp id ?_⟩
  rintro ⟨b', o, e, hlt, hm⟩
  refine ⟨b', o, e, hlt, fun j x hx => ?_⟩
  have := hm j x hx 0 (f x) rfl
  simpa using this
/-- a list of structs, as a fact -/
def dpSmG {α : Type} (k : Nat) (f : α → List Value) (A : Option Addr) (n c : Nat) (l : List α) : DP := ⟨fun H => Sm k f H H.size A n c l, fpA A n, fun _ _ h hk => h.fp_lt hk, fun _ _ hd h => (Sm.de (fun _ h => h) hd h).size⟩
theorem Fr.smG {S : Nat → Prop} {w0 w : World} {L : List VB} {D : List DP} (h : Fr w0 w L D S) {α : Type} {k : Nat} {f : α → List Value} {A : Option Addr} {n c : Nat} {l : List α} (hm : dpSmG k f A n c l ∈ D) : Sm k f w.heap w.heap.size A n c l := h.data _ hm
theorem Fr.addSmG {S : Nat → Prop} {w0 w w' : World} {L : List VB} {D : List DP} (h : Fr w0 w L D S) (h' : Fr w0 w' L D S) {α : Type} {k : Nat} {f : α → List Value} {b n c : Nat} {l : List α} (hb : w.heap.size ≤ b) (g : Sm k f w'.heap w'.heap.size (some ⟨b, 0, none⟩) n c l) : Fr w0 w' L (dpSmG k f (some ⟨b, 0, none⟩) n c l :: D) S :=
  h'.add _ g fun v hv ⟨_, o, e⟩ => by
    cases e
    have := (h.vars v hv).2.lt
    omega
attribute [irreducible] dpSmG

end Go.Eng
